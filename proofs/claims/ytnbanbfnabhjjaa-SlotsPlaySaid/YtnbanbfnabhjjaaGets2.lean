/- Gets of slots over a row: the walk. -/
import Derived.Test.YtnbanbfnabhjjaaGets
namespace Go.Proofs.Ytnbanbfnabhjjaa
open Go.RowKit
set_option linter.unusedVariables false
set_option linter.unusedSimpArgs false
theorem filterMap_take_succ {f : Int → Option Int} {l : List Int} {i : Nat} {x : Int} (h : l[i]? = some x) : (l.take (i + 1)).filterMap f = (l.take i).filterMap f ++ (f x).toList := by
  rw [List.take_add_one, h, List.filterMap_append]
  cases hf : f x <;> simp [hf]
set_option maxRecDepth 100000 in
set_option maxHeartbeats 2000000 in
/-- The values of keys, in their order. -/
theorem slots_gets {O : Nat → Prop} {sb limit n : Nat} {f : Int → Option Int} (l : List Int) (v : Value) (w : World) (hS : SM O w w sb limit f n) (h : Row w 22 1 v l.length (ucells l)) (hv : ∀ b ∈ rb v, ¬ O b) (hl : l.length ≤ 1000) (hU : ∀ x ∈ l, U64 x) :
    Calls Try.prog 68 #[.pointer (some ⟨sb, 0, none⟩), v] w fun e w' => ∃ v', e = .returned v' ∧ Side O w w' sb limit f n v' (l.filterMap f).length (l.filterMap f) := by
  have H := Hidden.mk h
  have HV := Hidden.mk hv
  have HU := Hidden.mk hU
  have h0 := Side.start hS
  obtain ⟨a, cap, rfl, k1, k2⟩ := h.slice_
  clear h hS hv hU
  go_enter Try.func68, Try.ntmps68
  go_wp2_with fail
  go_loopw [5, 12] (fun o iv wr => ∃ (i : Nat) (b : Option Addr) (c m : Nat), i ≤ l.length ∧ m ≤ i ∧ iv = .int .i64 i ∧ o = .slice b m c ∧ m = ((l.take i).filterMap f).length ∧ Side O w wr sb limit f n o m ((l.take i).filterMap f)) (fun _ iv _ => l.length - (intOf iv).toNat)
  case atStart => exact ⟨0, none, 0, 0, by omega, by omega, rfl, rfl, rfl, h0⟩
  case round =>
    clear h0
    obtain ⟨i, b, c, m, hi, hmi, rfl, rfl, hme, hs⟩ := hrel
    by_cases hlt : i < l.length
    · obtain ⟨x, hx⟩ : ∃ x, l[i]? = some x := ⟨l[i], by simp [hlt]⟩
      have hgd : l.getD i 0 = x := by rw [List.getD_eq_getElem?_getD, hx]; rfl
      obtain ⟨g, rfl, hg, hc⟩ := URow.at_ (H.out.keep hs.keep HV.out) hlt
      rw [hgd] at hc
      obtain ⟨O', hsub, hS, hno⟩ := hs.ex
      have hget := slots_get x (HU.out x (List.mem_of_getElem? hx)) hS
      have HX := Hidden.mk (And.intro (filterMap_take_succ (f := f) hx) (And.intro hs (And.intro hsub (And.intro hno hme))))
      have hm1000 : m + 1 ≤ 1001 := by omega
      clear hs hS hsub hno hx hgd hme
      cases hf : f x with
      | none =>
        rw [hf] at hget
        simp only [Option.getD_none, Option.isSome_none] at hget
        have HF := Hidden.mk hf
        clear hf
        go_wp2_with fail
        refine hget.mono ?_
        clear hget
        rintro e w3 ⟨rfl, hS⟩
        have h3 := Hidden.mk (HX.out.2.1.call HX.out.2.2.1 HX.out.2.2.2.1 hS)
        clear hS
        go_wp2_with fail
        go_roundw
        case rel =>
          have e1 := HX.out.1
          rw [HF.out] at e1
          simp only [Option.toList_none, List.append_nil] at e1
          exact ⟨i + 1, _, _, m, by omega, by omega, by go_num, rfl, by rw [e1]; exact HX.out.2.2.2.2, by rw [e1]; exact h3.out⟩
        case measure => simp [intOf]; omega
      | some y =>
        rw [hf] at hget
        simp only [Option.getD_some, Option.isSome_some] at hget
        have HF := Hidden.mk hf
        clear hf
        go_wp2_with fail
        refine hget.mono ?_
        clear hget
        rintro e w3 ⟨rfl, hS⟩
        have h3 := Hidden.mk ((HX.out.2.1.call HX.out.2.2.1 HX.out.2.2.2.1 hS).alloc (.cells #[.int .u64 y] 22))
        clear hS
        have e1 : Hidden ((l.take (i + 1)).filterMap f = (l.take i).filterMap f ++ [y]) := ⟨by have := HX.out.1; rw [HF.out] at this; exact this⟩
        go_wp2_with (refine wpList_any rfl (.tmp 23) (.tmp 25) 45 rfl 22 (.int .u64 0) 1 8 (by kernel_rfl) u64_info rfl (by decide) _ _ _ rfl h3.out.row _ _ _ rfl (holds_new1 _ _ _) (by simp [Value.oneCell']) (by omega) (by omega) ?_; intro b4 c4 w4 hr4 hm4 hf4; have h4 := Hidden.mk (h3.out.app (out' := (l.take (i + 1)).filterMap f) hr4 hm4 hf4 (by rw [e1.out]; unfold ucells; simp)); clear hr4 hm4 hf4 h3)
        go_roundw
        case rel => exact ⟨i + 1, _, _, m + 1, by omega, by omega, by go_num, rfl, by rw [e1.out, List.length_append, ← HX.out.2.2.2.2]; rfl, h4.out⟩
        case measure => simp [intOf]; omega
    · obtain rfl : i = l.length := by omega
      have hs := Hidden.mk (And.intro hs hme)
      clear hme
      go_wp2_with fail
      go_ret
      obtain ⟨hs, hme⟩ := hs.out
      rw [List.take_length] at hs hme
      rw [← hme]
      exact ⟨_, rfl, hs⟩
end Go.Proofs.Ytnbanbfnabhjjaa
