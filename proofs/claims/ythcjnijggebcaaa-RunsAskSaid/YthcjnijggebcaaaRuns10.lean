/- runs.Add, Drop; stepstoneref06.Runs. -/
import Derived.Test.YthcjnijggebcaaaRuns8
import Derived.Test.YthcjnijggebcaaaRuns9
import Derived.Test.YthcjnijggebcaaaRef06C
namespace Go.Proofs.Ythcjnijggebcaaa
open Go.RowKit
set_option linter.unusedVariables false
set_option linter.unusedSimpArgs false
/-- A new row of the runs of a set. -/
def RFOnly (w : World) (g : Nat → Bool) (e : Ending) (w' : World) : Prop := ∃ v' l', e = .returned v' ∧ WayR w w' v' l' ∧ RF l' g
/-- With these numbers. -/
def addF (f : Nat → Bool) (vs : List Int) : Nat → Bool := fun j => f j || decide ((j : Int) ∈ vs)
def dropF (f : Nat → Bool) (vs : List Int) : Nat → Bool := fun j => f j && !decide ((j : Int) ∈ vs)
theorem addF_nil (f : Nat → Bool) : addF f [] = f := by funext j; simp [addF]
theorem dropF_nil (f : Nat → Bool) : dropF f [] = f := by funext j; simp [dropF]
theorem addF_snoc (f : Nat → Bool) (vs : List Int) (x : Nat) : addF f (vs ++ [(x : Int)]) = fun i => if x ≤ i ∧ i ≤ x then true else addF f vs i := by
  funext j; unfold addF
  by_cases h : x ≤ j ∧ j ≤ x
  · have : j = x := by omega
    subst this; simp
  · have : ¬ (j : Int) = (x : Int) := by omega
    rw [if_neg h]; simp [this]
theorem dropF_snoc (f : Nat → Bool) (vs : List Int) (x : Nat) : dropF f (vs ++ [(x : Int)]) = fun i => if x ≤ i ∧ i ≤ x then false else dropF f vs i := by
  funext j; unfold dropF
  by_cases h : x ≤ j ∧ j ≤ x
  · have : j = x := by omega
    subst this; simp
  · have : ¬ (j : Int) = (x : Int) := by omega
    rw [if_neg h]; simp [this]
set_option maxHeartbeats 1000000 in
theorem addm_runs {w : World} {v vv : Value} {l : List (Int × Int)} {f : Nat → Bool} {vs : List Int} (h : RSl w v l) (hf : RF l f) (hv : ISl .u16 w vv vs) (hb : ∀ x ∈ vs, 0 ≤ x ∧ x < 65536) (hl : vs.length ≤ 1000000) :
    Calls Try.prog 25 #[v, vv] w (RFOnly w (addF f vs)) := by
  have hsh := hf.short
  have HC := Hidden.mk (clone_runs h (by omega))
  obtain ⟨a, cap, rfl, _⟩ := h.slice_
  obtain ⟨a2, cap2, rfl, _⟩ := hv.slice_
  have HF := Hidden.mk hf
  have HV := Hidden.mk hv
  have HB := Hidden.mk hb
  clear h hf hv hb
  go_enter Try.func25, Try.ntmps25
  go_wp2_with fail
  refine HC.out.mono ?_
  rintro e w1 ⟨v1, rfl, hW⟩
  have HW := Hidden.mk hW
  clear hW HC
  go_wp2_with fail
  go_loopw [5, 12] (fun vo vi wr => ∃ (i : Nat) (lo : List (Int × Int)), i ≤ vs.length ∧ vi = .int .i64 i ∧ WayR w wr vo lo ∧ RF lo (addF f (vs.take i))) (fun _ vi _ => vs.length - (intOf vi).toNat)
  case atStart => exact ⟨0, l, by omega, rfl, HW.out, by rw [List.take_zero, addF_nil]; exact HF.out⟩
  case round =>
    obtain ⟨i, lo, hi, rfl, hW, hR⟩ := hrel
    by_cases hin : i < vs.length
    · obtain ⟨b, off, x, rfl, hbl, hx, hcell⟩ := (HV.out.news hW.mod).get hin
      obtain ⟨x0, x1⟩ := HB.out x (List.mem_of_getElem? hx)
      have hsl := hR.short
      have HK := Hidden.mk (fill_runs x x ⟨x0, x1⟩ ⟨x0, x1⟩ hW.rsl hR.b16 (by omega))
      have E : Hidden (RF (rfill x x lo) (addF f (vs.take (i + 1)))) := ⟨by
        obtain ⟨n, rfl⟩ := Int.eq_ofNat_of_zero_le x0
        rw [List.take_add_one, hx, Option.toList_some, addF_snoc]
        exact hR.fill (by omega) (by omega)⟩
      have HM := Hidden.mk hW.mod
      clear hx hW hR
      go_wp2_with fail
      refine HK.out.mono ?_
      rintro e w3 ⟨v3, rfl, hW3⟩
      have HW3 := Hidden.mk (hW3.trans HM.out)
      clear hW3 HK
      go_wp2_with fail
      go_roundw
      case rel => exact ⟨i + 1, _, by omega, by go_num, HW3.out, E.out⟩
      case measure => simp [intOf]; omega
    · have e : i = vs.length := by omega
      subst e
      rw [List.take_length] at hR
      have HW := Hidden.mk (And.intro hW hR)
      clear hW hR
      go_wp2_with fail
      go_ret
      exact ⟨_, lo, rfl, HW.out⟩
set_option maxHeartbeats 1000000 in
theorem dropm_runs {w : World} {v vv : Value} {l : List (Int × Int)} {f : Nat → Bool} {vs : List Int} (h : RSl w v l) (hf : RF l f) (hv : ISl .u16 w vv vs) (hb : ∀ x ∈ vs, 0 ≤ x ∧ x < 65536) (hl : vs.length ≤ 1000000) :
    Calls Try.prog 28 #[v, vv] w (RFOnly w (dropF f vs)) := by
  have hsh := hf.short
  have HC := Hidden.mk (clone_runs h (by omega))
  obtain ⟨a, cap, rfl, _⟩ := h.slice_
  obtain ⟨a2, cap2, rfl, _⟩ := hv.slice_
  have HF := Hidden.mk hf
  have HV := Hidden.mk hv
  have HB := Hidden.mk hb
  clear h hf hv hb
  go_enter Try.func28, Try.ntmps28
  go_wp2_with fail
  refine HC.out.mono ?_
  rintro e w1 ⟨v1, rfl, hW⟩
  have HW := Hidden.mk hW
  clear hW HC
  go_wp2_with fail
  go_loopw [5, 12] (fun vo vi wr => ∃ (i : Nat) (lo : List (Int × Int)), i ≤ vs.length ∧ vi = .int .i64 i ∧ WayR w wr vo lo ∧ RF lo (dropF f (vs.take i))) (fun _ vi _ => vs.length - (intOf vi).toNat)
  case atStart => exact ⟨0, l, by omega, rfl, HW.out, by rw [List.take_zero, dropF_nil]; exact HF.out⟩
  case round =>
    obtain ⟨i, lo, hi, rfl, hW, hR⟩ := hrel
    by_cases hin : i < vs.length
    · obtain ⟨b, off, x, rfl, hbl, hx, hcell⟩ := (HV.out.news hW.mod).get hin
      obtain ⟨x0, x1⟩ := HB.out x (List.mem_of_getElem? hx)
      have hsl := hR.short
      have HK := Hidden.mk (wipe_runs x x ⟨x0, x1⟩ ⟨x0, x1⟩ hW.rsl hR.b16 (by omega))
      have E : Hidden (RF (rwipe x x lo) (dropF f (vs.take (i + 1)))) := ⟨by
        obtain ⟨n, rfl⟩ := Int.eq_ofNat_of_zero_le x0
        rw [List.take_add_one, hx, Option.toList_some, dropF_snoc]
        exact hR.wipe (by omega) (by omega)⟩
      have HM := Hidden.mk hW.mod
      clear hx hW hR
      go_wp2_with fail
      refine HK.out.mono ?_
      rintro e w3 ⟨v3, rfl, hW3⟩
      have HW3 := Hidden.mk (hW3.trans HM.out)
      clear hW3 HK
      go_wp2_with fail
      go_roundw
      case rel => exact ⟨i + 1, _, by omega, by go_num, HW3.out, E.out⟩
      case measure => simp [intOf]; omega
    · have e : i = vs.length := by omega
      subst e
      rw [List.take_length] at hR
      have HW := Hidden.mk (And.intro hW hR)
      clear hW hR
      go_wp2_with fail
      go_ret
      exact ⟨_, lo, rfl, HW.out⟩
set_option maxHeartbeats 1000000 in
theorem runs06 {w : World} {v : Value} {f : Nat → Bool} (h : BS 4 w v f) :
    Calls Try.prog 77 #[v] w fun e w' => e = .returned (.int .i64 (cntN (startF f) Most)) ∧ Mod [] w w' := by
  obtain ⟨sb, rfl, _, hlt, hcw0, _⟩ := h.at_
  have hcw : Hidden (∀ W, Mod [] w W → ∀ i, i < 65536 → W.cell? ⟨sb, 0 + i, none⟩ = some (.bool (f i))) := ⟨fun W hW i hi => (Below.cell (p := ⟨sb, 0 + i, none⟩) hW.below' hlt).trans (hcw0 i hi)⟩
  clear h hcw0 hlt
  go_enter Try.func77, Try.ntmps77
  go_wp2_with fail
  go_loopw [3, 4, 7] (fun vn _ vi wr => ∃ i : Nat, i ≤ 65536 ∧ vi = .int .i64 i ∧ vn = .int .i64 (cntN (startF f) i) ∧ Mod [] w wr) (fun _ _ vi _ => 65536 - (intOf vi).toNat)
  case atStart => exact ⟨0, by omega, rfl, rfl, Mod.refl [] w⟩
  case round =>
    obtain ⟨i, hi, rfl, rfl, hm⟩ := hrel
    have hle := cntN_le (f := startF f) i
    by_cases hin : i < 65536
    · have hc := hcw.out _ hm i hin
      rw [Nat.zero_add] at hc
      have hinz : (i : Int) < 65536 := by omega
      have HM := Hidden.mk hm
      rcases Nat.eq_zero_or_pos i with h0 | h0
      · subst h0
        cases hfi : f 0 with
        | false =>
          have e := Hidden.mk (cntN_no (f := startF f) (n := 0) (by rw [startF_zero]; exact hfi))
          rw [hfi] at hc
          clear hm hfi
          go_wp2_with fail
          go_roundw
          case rel => exact ⟨1, by omega, by go_num, by rw [e.out], HM.out⟩
          case measure => simp [intOf]
        | true =>
          have e := Hidden.mk (cntN_yes (f := startF f) (n := 0) (by rw [startF_zero]; exact hfi))
          rw [hfi] at hc
          clear hm hfi
          go_wp2_with fail
          go_roundw
          case rel => exact ⟨1, by omega, by go_num, by rw [e.out]; go_num, HM.out⟩
          case measure => simp [intOf]
      · obtain ⟨k, rfl⟩ : ∃ k, i = k + 1 := ⟨i - 1, by omega⟩
        have hd := hcw.out _ hm k (by omega)
        rw [Nat.zero_add] at hd
        have ek : IntKind.i64.wrap (k : Int) = k := IntWalk.i64_in _ (by omega)
        have ez : ((k : Int) + 1 == 0) = false := by simp; omega
        have en : (k : Int) < 65536 := by omega
        have en0 : (0 : Int) ≤ (k : Int) := by omega
        have en1 : (k : Int) + 1 < 65536 := by omega
        have en2 : (0 : Int) ≤ (k : Int) + 1 := by omega
        have hs := startF_succ f h0
        rw [Nat.add_sub_cancel] at hs
        cases hfi : f (k + 1) with
        | false =>
          have e := Hidden.mk (cntN_no (f := startF f) (n := k + 1) (by rw [hs, hfi]; rfl))
          rw [hfi] at hc
          skip
          clear hm hfi hs h0
          go_wp2_with fail
          go_roundw
          case rel => exact ⟨k + 1 + 1, by omega, by go_num, by rw [e.out], HM.out⟩
          case measure => simp [intOf]; omega
        | true =>
          cases hfk : f k with
          | false =>
            have e := Hidden.mk (cntN_yes (f := startF f) (n := k + 1) (by rw [hs, hfi, hfk]; rfl))
            rw [hfi] at hc
            rw [hfk] at hd
            clear hm hfi hfk hs h0
            go_wp2_with fail
            go_roundw
            case rel => exact ⟨k + 1 + 1, by omega, by go_num, by rw [e.out]; go_num, HM.out⟩
            case measure => simp [intOf]; omega
          | true =>
            have e := Hidden.mk (cntN_no (f := startF f) (n := k + 1) (by rw [hs, hfi, hfk]; rfl))
            rw [hfi] at hc
            rw [hfk] at hd
            clear hm hfi hfk hs h0
            go_wp2_with fail
            go_roundw
            case rel => exact ⟨k + 1 + 1, by omega, by go_num, by rw [e.out], HM.out⟩
            case measure => simp [intOf]; omega
    · have e : i = 65536 := by omega
      subst e
      have HM := Hidden.mk hm
      clear hm
      go_wp2_with fail
      go_ret
      exact ⟨rfl, HM.out⟩
end Go.Proofs.Ythcjnijggebcaaa
