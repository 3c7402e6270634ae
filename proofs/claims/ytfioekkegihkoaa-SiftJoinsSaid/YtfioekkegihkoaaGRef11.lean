/- Texts joined: Ref11A, Ref11B, Ref11C, Ref11N. -/
import Derived.Test.YtfioekkegihkoaaGBuc
import Derived.Test.YtfioekkegihkoaaGOrd
set_option linter.unusedVariables false
set_option linter.unusedSimpArgs false
/- ref11: Find, Add, Of (keys as a rising list). -/
namespace Go.Proofs.Ytfioekkegihkoaa
open Go.RowKit
set_option linter.unusedVariables false
set_option linter.unusedSimpArgs false

/-- A list of numbers (new or not). -/
def SomeRow (w : World) (l : List Int) (e : Ending) (w' : World) : Prop := ∃ v, e = .returned v ∧ ISl .u64 w' v l ∧ Mod [] w w'
/-- A place and whether it is there. -/
def FoundAt (w : World) (r : Nat) (d : Bool) (e : Ending) (w' : World) : Prop := e = .returned (.tuple #[.int .i64 r, .bool d]) ∧ ∃ q, w' = w.drewN q
set_option maxHeartbeats 1000000 in
set_option maxRecDepth 100000 in
theorem find11 {w : World} {v : Value} {l : List Int} (t : Int) (h : ISl .u64 w v l) (hl : l.length ≤ 1000000000) (hs : l.Pairwise (· ≤ ·)) :
    Calls Try.prog 18 #[v, .int .u64 t] w (FoundAt w (rk l t) (decide (t ∈ l))) := by
  obtain ⟨a, cap, rfl, _⟩ := h.slice_
  have hrk := rk_le l t
  have HM : Hidden (decide (t ∈ l) = (decide (rk l t < l.length) && decide (l.getD (rk l t) 0 = t))) := ⟨by
    rw [Bool.eq_iff_iff, Bool.and_eq_true, decide_eq_true_iff, decide_eq_true_iff, decide_eq_true_iff]; exact mem_rk hs⟩
  have HA : Hidden (∀ p, p < rk l t → l.getD p 0 < t) := ⟨fun p hp => (rk_lt hs hp).1⟩
  have HB : Hidden (rk l t < l.length → t ≤ l.getD (rk l t) 0) := ⟨fun hp => rk_ge hs (Nat.le_refl _) hp⟩
  have H := Hidden.mk h
  generalize rk l t = r at *
  generalize decide (t ∈ l) = d at *
  clear h hs
  go_enter Try.func18, Try.ntmps18
  go_wp2_with fail
  go_loopw [6] (fun vi wr => ∃ i : Nat, i ≤ r ∧ vi = .int .i64 i ∧ wr = w) (fun vi _ => r - (intOf vi).toNat)
  case atStart => exact ⟨0, by omega, rfl, rfl⟩
  case round =>
    obtain ⟨i, hi, rfl, rfl⟩ := hrel
    by_cases hin : i < l.length
    · obtain ⟨b, off, x, rfl, _, hx, hc⟩ := H.out.get hin
      have hxe : l.getD i 0 = x := by rw [List.getD_eq_getElem?_getD, hx]; rfl
      by_cases hir : i < r
      · have hlt : x < t := by rw [← hxe]; exact HA.out i hir
        clear hx hxe
        go_wp2_with fail
        go_roundw
        case rel => exact ⟨i + 1, by omega, by go_num, trivial⟩
        case measure => simp [intOf]; omega
      · obtain rfl : i = r := by omega
        have hge : decide (x < t) = false := decide_eq_false (by have := HB.out hin; omega)
        have hd : (x == t) = d := by rw [HM.out, hxe, decide_eq_true hin, Bool.true_and]; rfl
        clear hx hxe HM HA HB
        go_wp2_with fail
        go_quiet (fail)
        go_wp2_with fail
        go_ret2
        exact ⟨rfl, _, rfl⟩
    · obtain rfl : i = r := by omega
      have hd : d = false := by rw [HM.out, decide_eq_false hin, Bool.false_and]
      have hiz : decide ((i : Int) < (l.length : Int)) = false := decide_eq_false (by omega)
      have hin2 : decide (i < l.length) = false := decide_eq_false hin
      subst hd
      clear HM HA HB hin
      go_wp2_with fail
      go_quiet (fail)
      go_wp2_with fail
      go_ret2
      exact ⟨rfl, _, rfl⟩
set_option maxHeartbeats 4000000 in
set_option maxRecDepth 100000 in
theorem add11 {w : World} {v : Value} {l : List Int} (t : Int) (h : ISl .u64 w v l) (hl : l.length ≤ 100000) (hs : l.Pairwise (· ≤ ·)) :
    Calls Try.prog 55 #[v, .int .u64 t] w (SomeRow w (if t ∈ l then l else insL l t)) := by
  have hf := Hidden.mk (find11 t h (by omega) hs)
  have hrk := rk_le l t
  obtain ⟨a, cap, rfl, k1, k2, k3, _⟩ := id h
  have H := Hidden.mk h
  have hnone := Hidden.mk k3
  clear h hs k3
  by_cases ht : t ∈ l
  · have hd : decide (t ∈ l) = true := decide_eq_true ht
    rw [hd] at hf
    rw [if_pos ht]
    clear hd ht
    go_enter Try.func55, Try.ntmps55
    go_wp2_with fail
    refine hf.out.mono ?_
    rintro e W ⟨rfl, q, hq⟩
    have HW : Hidden (Mod [] w W) := ⟨by rw [hq]; exact (Mod.refl [] w).drewN q⟩
    clear hq hf
    go_wp2_with fail
    go_ret
    exact ⟨_, rfl, H.out.news HW.out, HW.out⟩
  · have hd : decide (t ∈ l) = false := decide_eq_false ht
    rw [hd] at hf
    rw [if_neg ht]
    unfold insL
    clear hd ht
    generalize hr : rk l t = r at *
    clear hr
    have r0 : (0 : Int) ≤ (r : Int) := by omega
    have r1 : (r : Int) ≤ (l.length : Int) := by omega
    have r2 : (l.length : Int) ≤ (cap : Int) := by omega
    have r3 : (r : Int) ≤ (cap : Int) := by omega
    rcases Nat.eq_zero_or_pos l.length with hz | hpos
    · have hl0 : l = [] := List.eq_nil_of_length_eq_zero hz
      obtain rfl : r = 0 := by omega
      subst hl0
      clear r0 r1 k1 hrk hz
      cases a with
      | none =>
        have hc0 := hnone.out rfl
        subst hc0
        clear r2 r3 k2
        have HT : Hidden (∀ W, Mod [] w W → ISl .u64 W (.slice none 0 0) (List.take 0 ([] : List Int))) := ⟨fun W _ => ISl.nil_ _ _⟩
        have HL : Hidden (∀ W, Mod [] w W → ISl .u64 W (.slice none 0 0) (List.drop 0 ([] : List Int))) := ⟨fun W _ => ISl.nil_ _ _⟩
        go_enter Try.func55, Try.ntmps55
        go_wp2_with fail
        refine hf.out.mono ?_
        rintro e W ⟨rfl, q, hq⟩
        have HW : Hidden (Mod [] w W) := ⟨by rw [hq]; exact (Mod.refl [] w).drewN q⟩
        clear hq hf
        have hA := Hidden.mk (WayI.empty (k := .u64) (e := 22) (Mod.refl [] W))
        have hT := Hidden.mk ((HT.out _ (HW.out.trans ((Mod.refl [] W).alloc (.cells #[] 22)) (by simp))).holds)
        have hi1 := Hidden.mk (icells_one .u64 ((List.take 0 ([] : List Int))))
        have hi3 := Hidden.mk (icells_one .u64 ((List.drop 0 ([] : List Int))))
        have hlT : Hidden (((List.take 0 ([] : List Int))).length ≤ 100000) := ⟨by rw [List.length_take]; omega⟩
        have hlD : Hidden (((List.drop 0 ([] : List Int))).length ≤ 100000) := ⟨by rw [List.length_drop]; omega⟩
        generalize (List.take 0 ([] : List Int)) = lt at *
        generalize (List.drop 0 ([] : List Int)) = ld at *
        have hlT2 := hlT.out
        have hlD2 := hlD.out
        go_wp2_with (first
          | (refine wpList_any rfl (.tmp 16) (.tmp 19) 23 rfl 22 (.int .u64 0) 1 8 (by kernel_rfl) info64 rfl (by decide) _ _ _ rfl hA.out.row _ _ _ rfl hT.out hi1.out (by omega) (by omega) ?_; intro b4 c4 w4 hr4 hm4 hf4; rw [Nat.zero_add] at hr4 hf4 ⊢; have hB := Hidden.mk ((hA.out.next hr4 hm4 hf4 (m := lt) (by simp [icells])).alloc (.cells #[.int .u64 t] 22)); have hn1 := Hidden.mk (holds_one w4 (.int .u64 t) 22 rfl); have hi2 : Hidden (∀ u ∈ [Value.int .u64 t], u.oneCell' = true) := ⟨by simp [Value.oneCell']⟩; clear hr4 hm4 hf4 hA hT)
          | (refine wpList_any rfl (.tmp 21) (.tmp 23) 23 rfl 22 (.int .u64 0) 1 8 (by kernel_rfl) info64 rfl (by decide) _ _ _ rfl hB.out.row _ _ _ rfl hn1.out hi2.out (by omega) (by omega) ?_; intro b5 c5 w5 hr5 hm5 hf5; have hC := Hidden.mk (hB.out.next hr5 hm5 hf5 (m := lt ++ [t]) (icells_snoc .u64 lt t)); clear hr5 hm5 hf5 hB hn1; have hD := Hidden.mk ((HL.out _ (HW.out.trans hC.out.mod (by simp))).holds))
          | (refine wpList_any rfl (.tmp 25) (.tmp 28) 23 rfl 22 (.int .u64 0) 1 8 (by kernel_rfl) info64 rfl (by decide) _ _ _ rfl hC.out.row _ _ _ rfl hD.out hi3.out (by omega) (by omega) ?_; intro b6 c6 w6 hr6 hm6 hf6; have hE := Hidden.mk (hC.out.next hr6 hm6 hf6 (m := lt ++ [t] ++ ld) (by simp [icells])); clear hr6 hm6 hf6 hC hD))
        go_ret
        exact ⟨_, rfl, hE.out.isl.2, HW.out.trans hE.out.mod (by simp)⟩
      | some ad =>
        have HT : Hidden (∀ W, Mod [] w W → ISl .u64 W (.slice (some ad) 0 cap) (List.take 0 ([] : List Int))) := ⟨fun W _ => ISl.end_ _ _ _ _ k2 (by simp)⟩
        have HL : Hidden (∀ W, Mod [] w W → ISl .u64 W (.slice (some ad) 0 cap) (List.drop 0 ([] : List Int))) := ⟨fun W _ => ISl.end_ _ _ _ _ k2 (by simp)⟩
        go_enter Try.func55, Try.ntmps55
        go_wp2_with fail
        refine hf.out.mono ?_
        rintro e W ⟨rfl, q, hq⟩
        have HW : Hidden (Mod [] w W) := ⟨by rw [hq]; exact (Mod.refl [] w).drewN q⟩
        clear hq hf
        have hA := Hidden.mk (WayI.empty (k := .u64) (e := 22) (Mod.refl [] W))
        have hT := Hidden.mk ((HT.out _ (HW.out.trans ((Mod.refl [] W).alloc (.cells #[] 22)) (by simp))).holds)
        have hi1 := Hidden.mk (icells_one .u64 ((List.take 0 ([] : List Int))))
        have hi3 := Hidden.mk (icells_one .u64 ((List.drop 0 ([] : List Int))))
        have hlT : Hidden (((List.take 0 ([] : List Int))).length ≤ 100000) := ⟨by rw [List.length_take]; omega⟩
        have hlD : Hidden (((List.drop 0 ([] : List Int))).length ≤ 100000) := ⟨by rw [List.length_drop]; omega⟩
        generalize (List.take 0 ([] : List Int)) = lt at *
        generalize (List.drop 0 ([] : List Int)) = ld at *
        have hlT2 := hlT.out
        have hlD2 := hlD.out
        go_wp2_with (first
          | (refine wpList_any rfl (.tmp 16) (.tmp 19) 23 rfl 22 (.int .u64 0) 1 8 (by kernel_rfl) info64 rfl (by decide) _ _ _ rfl hA.out.row _ _ _ rfl hT.out hi1.out (by omega) (by omega) ?_; intro b4 c4 w4 hr4 hm4 hf4; rw [Nat.zero_add] at hr4 hf4 ⊢; have hB := Hidden.mk ((hA.out.next hr4 hm4 hf4 (m := lt) (by simp [icells])).alloc (.cells #[.int .u64 t] 22)); have hn1 := Hidden.mk (holds_one w4 (.int .u64 t) 22 rfl); have hi2 : Hidden (∀ u ∈ [Value.int .u64 t], u.oneCell' = true) := ⟨by simp [Value.oneCell']⟩; clear hr4 hm4 hf4 hA hT)
          | (refine wpList_any rfl (.tmp 21) (.tmp 23) 23 rfl 22 (.int .u64 0) 1 8 (by kernel_rfl) info64 rfl (by decide) _ _ _ rfl hB.out.row _ _ _ rfl hn1.out hi2.out (by omega) (by omega) ?_; intro b5 c5 w5 hr5 hm5 hf5; have hC := Hidden.mk (hB.out.next hr5 hm5 hf5 (m := lt ++ [t]) (icells_snoc .u64 lt t)); clear hr5 hm5 hf5 hB hn1; have hD := Hidden.mk ((HL.out _ (HW.out.trans hC.out.mod (by simp))).holds))
          | (refine wpList_any rfl (.tmp 25) (.tmp 28) 23 rfl 22 (.int .u64 0) 1 8 (by kernel_rfl) info64 rfl (by decide) _ _ _ rfl hC.out.row _ _ _ rfl hD.out hi3.out (by omega) (by omega) ?_; intro b6 c6 w6 hr6 hm6 hf6; have hE := Hidden.mk (hC.out.next hr6 hm6 hf6 (m := lt ++ [t] ++ ld) (by simp [icells])); clear hr6 hm6 hf6 hC hD))
        go_ret
        exact ⟨_, rfl, hE.out.isl.2, HW.out.trans hE.out.mod (by simp)⟩
    · obtain ⟨b, off, cap', he, _, _, _, _⟩ := H.out.at_ hpos
      injection he with he he2 he3
      subst he he3
      clear he2
      have HT : Hidden (∀ W, Mod [] w W → ISl .u64 W (.slice (some ⟨b, off, none⟩) r cap) (l.take r)) := ⟨fun W hW => (H.out.news hW).take hrk⟩
      rcases Nat.lt_or_ge r cap with hrc | hrc
      · have hrz : ¬ cap = r := by omega
        have HL : Hidden (∀ W, Mod [] w W → ISl .u64 W (.slice (some ⟨b, off + r, none⟩) (l.length - r) (cap - r)) (l.drop r)) := ⟨fun W hW => (H.out.news hW).drop hrk⟩
        go_enter Try.func55, Try.ntmps55
        go_wp2_with fail
        refine hf.out.mono ?_
        rintro e W ⟨rfl, q, hq⟩
        have HW : Hidden (Mod [] w W) := ⟨by rw [hq]; exact (Mod.refl [] w).drewN q⟩
        clear hq hf
        have hA := Hidden.mk (WayI.empty (k := .u64) (e := 22) (Mod.refl [] W))
        have hT := Hidden.mk ((HT.out _ (HW.out.trans ((Mod.refl [] W).alloc (.cells #[] 22)) (by simp))).holds)
        have hi1 := Hidden.mk (icells_one .u64 (l.take r))
        have hi3 := Hidden.mk (icells_one .u64 (l.drop r))
        have hlT : Hidden ((l.take r).length ≤ 100000) := ⟨by rw [List.length_take]; omega⟩
        have hlD : Hidden ((l.drop r).length ≤ 100000) := ⟨by rw [List.length_drop]; omega⟩
        generalize l.take r = lt at *
        generalize l.drop r = ld at *
        have hlT2 := hlT.out
        have hlD2 := hlD.out
        go_wp2_with (first
          | (refine wpList_any rfl (.tmp 16) (.tmp 19) 23 rfl 22 (.int .u64 0) 1 8 (by kernel_rfl) info64 rfl (by decide) _ _ _ rfl hA.out.row _ _ _ rfl hT.out hi1.out (by omega) (by omega) ?_; intro b4 c4 w4 hr4 hm4 hf4; rw [Nat.zero_add] at hr4 hf4 ⊢; have hB := Hidden.mk ((hA.out.next hr4 hm4 hf4 (m := lt) (by simp [icells])).alloc (.cells #[.int .u64 t] 22)); have hn1 := Hidden.mk (holds_one w4 (.int .u64 t) 22 rfl); have hi2 : Hidden (∀ u ∈ [Value.int .u64 t], u.oneCell' = true) := ⟨by simp [Value.oneCell']⟩; clear hr4 hm4 hf4 hA hT)
          | (refine wpList_any rfl (.tmp 21) (.tmp 23) 23 rfl 22 (.int .u64 0) 1 8 (by kernel_rfl) info64 rfl (by decide) _ _ _ rfl hB.out.row _ _ _ rfl hn1.out hi2.out (by omega) (by omega) ?_; intro b5 c5 w5 hr5 hm5 hf5; have hC := Hidden.mk (hB.out.next hr5 hm5 hf5 (m := lt ++ [t]) (icells_snoc .u64 lt t)); clear hr5 hm5 hf5 hB hn1; have hD := Hidden.mk ((HL.out _ (HW.out.trans hC.out.mod (by simp))).holds))
          | (refine wpList_any rfl (.tmp 25) (.tmp 28) 23 rfl 22 (.int .u64 0) 1 8 (by kernel_rfl) info64 rfl (by decide) _ _ _ rfl hC.out.row _ _ _ rfl hD.out hi3.out (by omega) (by omega) ?_; intro b6 c6 w6 hr6 hm6 hf6; have hE := Hidden.mk (hC.out.next hr6 hm6 hf6 (m := lt ++ [t] ++ ld) (by simp [icells])); clear hr6 hm6 hf6 hC hD))
        go_ret
        exact ⟨_, rfl, hE.out.isl.2, HW.out.trans hE.out.mod (by simp)⟩
      · have hl1 : l.drop r = [] := by rw [List.drop_eq_nil_iff]; omega
        have HL : Hidden (∀ W, Mod [] w W → ISl .u64 W (.slice (some ⟨b, off, none⟩) 0 0) (l.drop r)) := ⟨fun W _ => by rw [hl1]; exact ISl.end_ _ _ _ _ (by omega) (by simp)⟩
        obtain rfl : cap = r := by omega
        have hlr : l.length = cap := by omega
        clear hrc r2 r3 hl1 hnone
        rw [hlr] at hf r1 H ⊢
        clear hlr hrk k1 hpos
        go_enter Try.func55, Try.ntmps55
        go_wp2_with fail
        refine hf.out.mono ?_
        rintro e W ⟨rfl, q, hq⟩
        have HW : Hidden (Mod [] w W) := ⟨by rw [hq]; exact (Mod.refl [] w).drewN q⟩
        clear hq hf
        have hA := Hidden.mk (WayI.empty (k := .u64) (e := 22) (Mod.refl [] W))
        have hT := Hidden.mk ((HT.out _ (HW.out.trans ((Mod.refl [] W).alloc (.cells #[] 22)) (by simp))).holds)
        have hi1 := Hidden.mk (icells_one .u64 (l.take cap))
        have hi3 := Hidden.mk (icells_one .u64 (l.drop cap))
        have hlT : Hidden ((l.take cap).length ≤ 100000) := ⟨by rw [List.length_take]; omega⟩
        have hlD : Hidden ((l.drop cap).length ≤ 100000) := ⟨by rw [List.length_drop]; omega⟩
        generalize l.take cap = lt at *
        generalize l.drop cap = ld at *
        have hlT2 := hlT.out
        have hlD2 := hlD.out
        go_wp2_with (first
          | (refine wpList_any rfl (.tmp 16) (.tmp 19) 23 rfl 22 (.int .u64 0) 1 8 (by kernel_rfl) info64 rfl (by decide) _ _ _ rfl hA.out.row _ _ _ rfl hT.out hi1.out (by omega) (by omega) ?_; intro b4 c4 w4 hr4 hm4 hf4; rw [Nat.zero_add] at hr4 hf4 ⊢; have hB := Hidden.mk ((hA.out.next hr4 hm4 hf4 (m := lt) (by simp [icells])).alloc (.cells #[.int .u64 t] 22)); have hn1 := Hidden.mk (holds_one w4 (.int .u64 t) 22 rfl); have hi2 : Hidden (∀ u ∈ [Value.int .u64 t], u.oneCell' = true) := ⟨by simp [Value.oneCell']⟩; clear hr4 hm4 hf4 hA hT)
          | (refine wpList_any rfl (.tmp 21) (.tmp 23) 23 rfl 22 (.int .u64 0) 1 8 (by kernel_rfl) info64 rfl (by decide) _ _ _ rfl hB.out.row _ _ _ rfl hn1.out hi2.out (by omega) (by omega) ?_; intro b5 c5 w5 hr5 hm5 hf5; have hC := Hidden.mk (hB.out.next hr5 hm5 hf5 (m := lt ++ [t]) (icells_snoc .u64 lt t)); clear hr5 hm5 hf5 hB hn1; have hD := Hidden.mk ((HL.out _ (HW.out.trans hC.out.mod (by simp))).holds))
          | (refine wpList_any rfl (.tmp 25) (.tmp 28) 23 rfl 22 (.int .u64 0) 1 8 (by kernel_rfl) info64 rfl (by decide) _ _ _ rfl hC.out.row _ _ _ rfl hD.out hi3.out (by omega) (by omega) ?_; intro b6 c6 w6 hr6 hm6 hf6; have hE := Hidden.mk (hC.out.next hr6 hm6 hf6 (m := lt ++ [t] ++ ld) (by simp [icells])); clear hr6 hm6 hf6 hC hD))
        go_ret
        exact ⟨_, rfl, hE.out.isl.2, HW.out.trans hE.out.mod (by simp)⟩

end Go.Proofs.Ytfioekkegihkoaa

/- ref11.Of: the keys of a list, rising, each once. -/
namespace Go.Proofs.Ytfioekkegihkoaa
open Go.RowKit
set_option linter.unusedVariables false
set_option linter.unusedSimpArgs false
theorem asc_step {l : List Int} {i : Nat} {x : Int} (h : l[i]? = some x) : (if x ∈ asc (l.take i) then asc (l.take i) else insL (asc (l.take i)) x) = asc (l.take (i + 1)) := by
  refine rise_ext ?_ (asc_rises _) (fun y => ?_)
  · by_cases hx : x ∈ asc (l.take i)
    · rw [if_pos hx]; exact asc_rises _
    · rw [if_neg hx]; exact insL_rises (asc_rises _) hx
  · by_cases hx : x ∈ asc (l.take i)
    · rw [if_pos hx, asc_mem, asc_mem, List.take_add_one, h]
      rw [asc_mem] at hx
      simp only [List.mem_append, Option.toList_some, List.mem_singleton]
      constructor
      · exact .inl
      · rintro (h1 | rfl)
        · exact h1
        · exact hx
    · rw [if_neg hx, insL_mem, asc_mem, asc_mem, List.take_add_one, h]
      simp only [List.mem_append, Option.toList_some, List.mem_singleton]
      exact or_comm
set_option maxHeartbeats 1000000 in
set_option maxRecDepth 100000 in
theorem of11 {w : World} {v : Value} {l : List Int} (h : ISl .u64 w v l) (hl : l.length ≤ 10000) :
    Calls Try.prog 12 #[v] w (SomeRow w (asc l)) := by
  obtain ⟨a, cap, rfl, _⟩ := h.slice_
  have H := Hidden.mk h
  clear h
  go_enter Try.func12, Try.ntmps12
  go_wp2_with fail
  go_loopw [3, 8] (fun vo vi wr => ∃ i : Nat, i ≤ l.length ∧ vi = .int .i64 i ∧ ISl .u64 wr vo (asc (l.take i)) ∧ Mod [] w wr) (fun _ vi _ => l.length - (intOf vi).toNat)
  case atStart => exact ⟨0, by omega, rfl, by rw [List.take_zero, show asc ([] : List Int) = [] from asc_self List.Pairwise.nil]; exact ISl.nil_ _ _, Mod.refl [] w⟩
  case round =>
    obtain ⟨i, hi, rfl, ho, hm⟩ := hrel
    by_cases hin : i < l.length
    · obtain ⟨b, off, x, rfl, _, hx, hc⟩ := (H.out.news hm).get hin
      have hle : (asc (l.take i)).length ≤ 10000 := by have := asc_le (l.take i); rw [List.length_take] at this; omega
      have HA := Hidden.mk (add11 x ho (Nat.le_trans hle (by decide)) (rises_le (asc_rises _)))
      rw [asc_step hx] at HA
      obtain ⟨p, c, rfl, _⟩ := ho.slice_
      have HM := Hidden.mk hm
      clear ho hx hm hle
      go_wp2_with fail
      refine HA.out.mono ?_
      rintro e w2 ⟨v2, rfl, h2, hm2⟩
      have H2 := Hidden.mk (And.intro h2 (HM.out.trans hm2 (by simp)))
      obtain ⟨p2, c2, rfl, _⟩ := h2.slice_
      clear h2 hm2 HM HA
      go_wp2_with fail
      go_roundw
      case rel => exact ⟨i + 1, by omega, by go_num, H2.out.1, H2.out.2⟩
      case measure => simp [intOf]; omega
    · have e : i = l.length := by omega
      subst e
      rw [List.take_length] at ho
      obtain ⟨p, c, rfl, _⟩ := ho.slice_
      have H2 := Hidden.mk (And.intro ho hm)
      clear ho hm
      go_wp2_with fail
      go_ret
      exact ⟨_, rfl, H2.out.1, H2.out.2⟩
end Go.Proofs.Ytfioekkegihkoaa

/- ref11: Drop, Next, Prev. -/
namespace Go.Proofs.Ytfioekkegihkoaa
open Go.RowKit
set_option linter.unusedVariables false
set_option linter.unusedSimpArgs false
set_option maxHeartbeats 1000000 in
set_option maxRecDepth 100000 in
theorem next11 {w : World} {v : Value} {l : List Int} (t : Int) (h : ISl .u64 w v l) (hl : l.length ≤ 1000000000) (hs : l.Pairwise (· ≤ ·)) :
    Calls Try.prog 91 #[v, .int .u64 t] w fun e w' => IntBool .u64 (selL l (rk l t)) e ∧ ∃ q, w' = w.drewN q := by
  have hf := Hidden.mk (find11 t h hl hs)
  have hrk := rk_le l t
  obtain ⟨a, cap, rfl, _⟩ := h.slice_
  have H := Hidden.mk h
  generalize decide (t ∈ l) = d at *
  generalize rk l t = r at *
  clear h hs
  rcases Nat.lt_or_ge r l.length with hr | hr
  · rw [selL_yes hr]
    obtain ⟨b, off, x, rfl, _, hx, hc⟩ := H.out.get hr
    have e : l.getD r 0 = x := by rw [List.getD_eq_getElem?_getD, hx]; rfl
    rw [e]
    have hne : decide ((r : Int) = (l.length : Int)) = false := decide_eq_false (by omega)
    have hne2 : ((r : Int) == (l.length : Int)) = false := by simp; omega
    have hc2 : Hidden (∀ q, (w.drewN q).cell? ⟨b, off + r, none⟩ = some (.int .u64 x)) := ⟨fun q => hc⟩
    clear e hx hc
    go_enter Try.func91, Try.ntmps91
    go_wp2_with fail
    refine hf.out.mono ?_
    rintro e w' ⟨rfl, q, rfl⟩
    have hc := hc2.out q
    go_wp2_with fail
    go_ret2
    exact ⟨rfl, q, rfl⟩
  · obtain rfl : r = l.length := by omega
    rw [selL_no (by omega)]
    go_enter Try.func91, Try.ntmps91
    go_wp2_with fail
    refine hf.out.mono ?_
    rintro e w' ⟨rfl, q, rfl⟩
    go_wp2_with fail
    go_ret2
    exact ⟨rfl, q, rfl⟩
set_option maxHeartbeats 1000000 in
set_option maxRecDepth 100000 in
theorem prev11 {w : World} {v : Value} {l : List Int} (t : Int) (h : ISl .u64 w v l) (hl : l.length ≤ 1000000000) (hs : l.Pairwise (· ≤ ·)) :
    Calls Try.prog 92 #[v, .int .u64 t] w fun e w' => IntBool .u64 (prevL64 l t) e ∧ ∃ q, w' = w.drewN q := by
  have hf := Hidden.mk (find11 t h hl hs)
  have hrk := rk_le l t
  obtain ⟨a, cap, rfl, _⟩ := h.slice_
  have H := Hidden.mk h
  unfold prevL64
  clear h hs
  by_cases ht : t ∈ l
  · rw [decide_eq_true ht] at hf
    rw [if_pos ht]
    clear ht
    generalize rk l t = r at *
    go_enter Try.func92, Try.ntmps92
    go_wp2_with fail
    refine hf.out.mono ?_
    rintro e w' ⟨rfl, q, rfl⟩
    go_wp2_with fail
    go_ret2
    exact ⟨rfl, q, rfl⟩
  · rw [decide_eq_false ht] at hf
    rw [if_neg ht]
    clear ht
    generalize rk l t = r at *
    rcases Nat.eq_zero_or_pos r with hr | hr
    · subst hr
      rw [selL_no (by omega)]
      go_enter Try.func92, Try.ntmps92
      go_wp2_with fail
      refine hf.out.mono ?_
      rintro e w' ⟨rfl, q, rfl⟩
      go_wp2_with fail
      go_ret2
      exact ⟨rfl, q, rfl⟩
    · obtain ⟨j, rfl⟩ : ∃ j, r = j + 1 := ⟨r - 1, by omega⟩
      have hj : j < l.length := by omega
      rw [show ((j + 1 : Nat) : Int) - 1 = (j : Int) from by omega, selL_yes hj]
      obtain ⟨b, off, x, rfl, _, hx, hc⟩ := H.out.get hj
      have e : l.getD j 0 = x := by rw [List.getD_eq_getElem?_getD, hx]; rfl
      rw [e]
      have hne : decide (((j + 1 : Nat) : Int) = 0) = false := decide_eq_false (by omega)
      have hne2 : (((j + 1 : Nat) : Int) == 0) = false := by simp; omega
      have hne3 : decide ((j : Int) + 1 = 0) = false := decide_eq_false (by omega)
      have hne4 : ((j : Int) + 1 == 0) = false := by simp; omega
      have hc2 : Hidden (∀ q, (w.drewN q).cell? ⟨b, off + j, none⟩ = some (.int .u64 x)) := ⟨fun q => hc⟩
      clear e hx hc
      go_enter Try.func92, Try.ntmps92
      go_wp2_with fail
      refine hf.out.mono ?_
      rintro e w' ⟨rfl, q, rfl⟩
      have hc := hc2.out q
      go_wp2_with fail
      go_ret2
      exact ⟨rfl, q, rfl⟩
set_option maxHeartbeats 4000000 in
set_option maxRecDepth 100000 in
theorem drop11 {w : World} {v : Value} {l : List Int} (t : Int) (h : ISl .u64 w v l) (hl : l.length ≤ 100000) (hs : l.Pairwise (· ≤ ·)) :
    Calls Try.prog 31 #[v, .int .u64 t] w (SomeRow w (if t ∈ l then delL l t else l)) := by
  have hf := Hidden.mk (find11 t h (by omega) hs)
  have hss := Hidden.mk hs
  obtain ⟨a, cap, rfl, k1, k2, k3, _⟩ := id h
  have H := Hidden.mk h
  clear h hs k3
  by_cases ht : t ∈ l
  · have hpos : 0 < l.length := List.length_pos_of_mem ht
    have hr1 : rk l t < l.length := ((mem_rk hss.out).1 ht).1
    rw [decide_eq_true ht] at hf
    rw [if_pos ht]
    unfold delL
    clear ht
    generalize hr : rk l t = r at *
    clear hr
    have r0 : (0 : Int) ≤ (r : Int) := by omega
    have r1 : (r : Int) ≤ (l.length : Int) := by omega
    have r2 : (l.length : Int) ≤ (cap : Int) := by omega
    have r3 : (r : Int) ≤ (cap : Int) := by omega
    have r4 : (r : Int) + 1 ≤ (l.length : Int) := by omega
    have r5 : (r : Int) + 1 ≤ (cap : Int) := by omega
    have r6 : (0 : Int) ≤ (r : Int) + 1 := by omega
    have r7 : IntKind.i64.wrap ((r : Int) + 1) = (r : Int) + 1 := IntWalk.i64_in _ (by omega)
    have r8 : ((r : Int) + 1).toNat = r + 1 := by omega
    obtain ⟨b, off, cap', he, _, _, _, _⟩ := H.out.at_ hpos
    injection he with he he2 he3
    subst he he3
    clear he2
    have HT : Hidden (∀ W, Mod [] w W → ISl .u64 W (.slice (some ⟨b, off, none⟩) r cap) (l.take r)) := ⟨fun W hW => (H.out.news hW).take (Nat.le_of_lt hr1)⟩
    rcases Nat.lt_or_ge (r + 1) cap with hrc | hrc
    · have hrz : ¬ cap = r + 1 := by omega
      have HL : Hidden (∀ W, Mod [] w W → ISl .u64 W (.slice (some ⟨b, off + (r + 1), none⟩) (l.length - (r + 1)) (cap - (r + 1))) (l.drop (r + 1))) := ⟨fun W hW => (H.out.news hW).drop (i := r + 1) hr1⟩
      go_enter Try.func31, Try.ntmps31
      go_wp2_with fail
      refine hf.out.mono ?_
      rintro e W ⟨rfl, q, hq⟩
      have HW : Hidden (Mod [] w W) := ⟨by rw [hq]; exact (Mod.refl [] w).drewN q⟩
      clear hq hf
      have hA := Hidden.mk (WayI.empty (k := .u64) (e := 22) (Mod.refl [] W)).drew
      have hT := Hidden.mk ((HT.out _ (HW.out.trans ((Mod.refl [] W).alloc (.cells #[] 22)).drew (by simp))).holds)
      have hi1 := Hidden.mk (icells_one .u64 (l.take r))
      have hi3 := Hidden.mk (icells_one .u64 (l.drop (r + 1)))
      have hlT : Hidden ((l.take r).length ≤ 100000) := ⟨by rw [List.length_take]; omega⟩
      have hlD : Hidden ((l.drop (r + 1)).length ≤ 100000) := ⟨by rw [List.length_drop]; omega⟩
      generalize l.take r = lt at *
      generalize l.drop (r + 1) = ld at *
      have hlT2 := hlT.out
      have hlD2 := hlD.out
      go_wp2_with fail
      go_region_law (first
        | (refine step_any rfl (.tmp 16) (.tmp 19) 23 rfl 22 (.int .u64 0) 1 8 (by kernel_rfl) info64 rfl (by decide) _ _ _ rfl hA.out.row _ _ _ rfl hT.out hi1.out (by omega) (by omega) ?_; intro b4 c4 w4 hr4 hm4 hf4; simp only [Nat.zero_add] at hr4 hf4; have hB := Hidden.mk (hA.out.next hr4 hm4 hf4 (m := lt) (by simp [icells])); clear hr4 hm4 hf4 hA hT; have hD := Hidden.mk ((HL.out _ (HW.out.trans hB.out.mod (by simp))).holds))
        | (refine step_any rfl (.tmp 20) (.tmp 24) 23 rfl 22 (.int .u64 0) 1 8 (by kernel_rfl) info64 rfl (by decide) _ _ _ rfl hB.out.row _ _ _ rfl hD.out hi3.out (by omega) (by omega) ?_; intro b6 c6 w6 hr6 hm6 hf6; have hE := Hidden.mk (hB.out.next hr6 hm6 hf6 (m := lt ++ ld) (by simp [icells])); clear hr6 hm6 hf6 hB hD))
      all_goals
        go_wp2_with fail
        go_ret
        exact ⟨_, rfl, hE.out.isl.2, HW.out.trans hE.out.mod (by simp)⟩
    · have hl1 : l.drop (r + 1) = [] := by rw [List.drop_eq_nil_iff]; omega
      have HL : Hidden (∀ W, Mod [] w W → ISl .u64 W (.slice (some ⟨b, off, none⟩) 0 0) (l.drop (r + 1))) := ⟨fun W _ => by rw [hl1]; exact ISl.end_ _ _ _ _ (by omega) (by simp)⟩
      clear hl1
      obtain rfl : cap = r + 1 := by omega
      clear hrc r2 r5
      have r9 : (r : Int) ≤ (r : Int) + 1 := by omega
      go_enter Try.func31, Try.ntmps31
      go_wp2_with fail
      refine hf.out.mono ?_
      rintro e W ⟨rfl, q, hq⟩
      have HW : Hidden (Mod [] w W) := ⟨by rw [hq]; exact (Mod.refl [] w).drewN q⟩
      clear hq hf
      have hA := Hidden.mk (WayI.empty (k := .u64) (e := 22) (Mod.refl [] W)).drew
      have hT := Hidden.mk ((HT.out _ (HW.out.trans ((Mod.refl [] W).alloc (.cells #[] 22)).drew (by simp))).holds)
      have hi1 := Hidden.mk (icells_one .u64 (l.take r))
      have hi3 := Hidden.mk (icells_one .u64 (l.drop (r + 1)))
      have hlT : Hidden ((l.take r).length ≤ 100000) := ⟨by rw [List.length_take]; omega⟩
      have hlD : Hidden ((l.drop (r + 1)).length ≤ 100000) := ⟨by rw [List.length_drop]; omega⟩
      generalize l.take r = lt at *
      generalize l.drop (r + 1) = ld at *
      have hlT2 := hlT.out
      have hlD2 := hlD.out
      go_wp2_with fail
      go_region_law (first
        | (refine step_any rfl (.tmp 16) (.tmp 19) 23 rfl 22 (.int .u64 0) 1 8 (by kernel_rfl) info64 rfl (by decide) _ _ _ rfl hA.out.row _ _ _ rfl hT.out hi1.out (by omega) (by omega) ?_; intro b4 c4 w4 hr4 hm4 hf4; simp only [Nat.zero_add] at hr4 hf4; have hB := Hidden.mk (hA.out.next hr4 hm4 hf4 (m := lt) (by simp [icells])); clear hr4 hm4 hf4 hA hT; have hD := Hidden.mk ((HL.out _ (HW.out.trans hB.out.mod (by simp))).holds))
        | (refine step_any rfl (.tmp 20) (.tmp 24) 23 rfl 22 (.int .u64 0) 1 8 (by kernel_rfl) info64 rfl (by decide) _ _ _ rfl hB.out.row _ _ _ rfl hD.out hi3.out (by omega) (by omega) ?_; intro b6 c6 w6 hr6 hm6 hf6; have hE := Hidden.mk (hB.out.next hr6 hm6 hf6 (m := lt ++ ld) (by simp [icells])); clear hr6 hm6 hf6 hB hD))
      all_goals
        go_wp2_with fail
        go_ret
        exact ⟨_, rfl, hE.out.isl.2, HW.out.trans hE.out.mod (by simp)⟩
  · rw [decide_eq_false ht] at hf
    rw [if_neg ht]
    clear ht
    go_enter Try.func31, Try.ntmps31
    go_wp2_with fail
    refine hf.out.mono ?_
    rintro e W ⟨rfl, q, hq⟩
    have HW : Hidden (Mod [] w W) := ⟨by rw [hq]; exact (Mod.refl [] w).drewN q⟩
    clear hq hf
    go_wp2_with fail
    go_ret
    exact ⟨_, rfl, H.out.news HW.out, HW.out⟩
end Go.Proofs.Ytfioekkegihkoaa

/- ref11: Add, Of, Drop: where the answer lies. -/
namespace Go.Proofs.Ytfioekkegihkoaa
open Go.RowKit
set_option linter.unusedVariables false
set_option linter.unusedSimpArgs false
/-- A list of numbers: v0 itself, or a new one. -/
def SomeRowN (w : World) (v0 : Value) (l : List Int) (e : Ending) (w' : World) : Prop := ∃ v, e = .returned v ∧ ISl .u64 w' v l ∧ Mod [] w w' ∧ (v = v0 ∨ ∀ b ∈ rb v, w.heap.size ≤ b)
theorem orNew {v v0 : Value} {n : Nat} (h : v = v0 ∨ ∀ b ∈ rb v, n ≤ b) : ∀ b ∈ rb v, b ∈ rb v0 ∨ n ≤ b := fun b hb => h.elim (fun e => .inl (e ▸ hb)) (fun g => .inr (g b hb))
/-- A list of numbers in a new block, or none. -/
def NewRow (w : World) (l : List Int) (e : Ending) (w' : World) : Prop := ∃ v, e = .returned v ∧ ISl .u64 w' v l ∧ Mod [] w w' ∧ ∀ b ∈ rb v, w.heap.size ≤ b

set_option maxHeartbeats 4000000 in
set_option maxRecDepth 100000 in
theorem add11n {w : World} {v : Value} {l : List Int} (t : Int) (h : ISl .u64 w v l) (hl : l.length ≤ 100000) (hs : l.Pairwise (· ≤ ·)) :
    Calls Try.prog 55 #[v, .int .u64 t] w (SomeRowN w v (if t ∈ l then l else insL l t)) := by
  have hf := Hidden.mk (find11 t h (by omega) hs)
  have hrk := rk_le l t
  obtain ⟨a, cap, rfl, k1, k2, k3, _⟩ := id h
  have H := Hidden.mk h
  have hnone := Hidden.mk k3
  clear h hs k3
  by_cases ht : t ∈ l
  · have hd : decide (t ∈ l) = true := decide_eq_true ht
    rw [hd] at hf
    rw [if_pos ht]
    clear hd ht
    go_enter Try.func55, Try.ntmps55
    go_wp2_with fail
    refine hf.out.mono ?_
    rintro e W ⟨rfl, q, hq⟩
    have HW : Hidden (Mod [] w W) := ⟨by rw [hq]; exact (Mod.refl [] w).drewN q⟩
    clear hq hf
    go_wp2_with fail
    go_ret
    exact ⟨_, rfl, H.out.news HW.out, HW.out, .inl rfl⟩
  · have hd : decide (t ∈ l) = false := decide_eq_false ht
    rw [hd] at hf
    rw [if_neg ht]
    unfold insL
    clear hd ht
    generalize hr : rk l t = r at *
    clear hr
    have r0 : (0 : Int) ≤ (r : Int) := by omega
    have r1 : (r : Int) ≤ (l.length : Int) := by omega
    have r2 : (l.length : Int) ≤ (cap : Int) := by omega
    have r3 : (r : Int) ≤ (cap : Int) := by omega
    rcases Nat.eq_zero_or_pos l.length with hz | hpos
    · have hl0 : l = [] := List.eq_nil_of_length_eq_zero hz
      obtain rfl : r = 0 := by omega
      subst hl0
      clear r0 r1 k1 hrk hz
      cases a with
      | none =>
        have hc0 := hnone.out rfl
        subst hc0
        clear r2 r3 k2
        have HT : Hidden (∀ W, Mod [] w W → ISl .u64 W (.slice none 0 0) (List.take 0 ([] : List Int))) := ⟨fun W _ => ISl.nil_ _ _⟩
        have HL : Hidden (∀ W, Mod [] w W → ISl .u64 W (.slice none 0 0) (List.drop 0 ([] : List Int))) := ⟨fun W _ => ISl.nil_ _ _⟩
        go_enter Try.func55, Try.ntmps55
        go_wp2_with fail
        refine hf.out.mono ?_
        rintro e W ⟨rfl, q, hq⟩
        have HW : Hidden (Mod [] w W) := ⟨by rw [hq]; exact (Mod.refl [] w).drewN q⟩
        clear hq hf
        have hA := Hidden.mk (WayI.empty (k := .u64) (e := 22) (Mod.refl [] W))
        have hT := Hidden.mk ((HT.out _ (HW.out.trans ((Mod.refl [] W).alloc (.cells #[] 22)) (by simp))).holds)
        have hi1 := Hidden.mk (icells_one .u64 ((List.take 0 ([] : List Int))))
        have hi3 := Hidden.mk (icells_one .u64 ((List.drop 0 ([] : List Int))))
        have hlT : Hidden (((List.take 0 ([] : List Int))).length ≤ 100000) := ⟨by rw [List.length_take]; omega⟩
        have hlD : Hidden (((List.drop 0 ([] : List Int))).length ≤ 100000) := ⟨by rw [List.length_drop]; omega⟩
        generalize (List.take 0 ([] : List Int)) = lt at *
        generalize (List.drop 0 ([] : List Int)) = ld at *
        have hlT2 := hlT.out
        have hlD2 := hlD.out
        go_wp2_with (first
          | (refine wpList_any rfl (.tmp 16) (.tmp 19) 23 rfl 22 (.int .u64 0) 1 8 (by kernel_rfl) info64 rfl (by decide) _ _ _ rfl hA.out.row _ _ _ rfl hT.out hi1.out (by omega) (by omega) ?_; intro b4 c4 w4 hr4 hm4 hf4; rw [Nat.zero_add] at hr4 hf4 ⊢; have hB := Hidden.mk ((hA.out.next hr4 hm4 hf4 (m := lt) (by simp [icells])).alloc (.cells #[.int .u64 t] 22)); have hn1 := Hidden.mk (holds_one w4 (.int .u64 t) 22 rfl); have hi2 : Hidden (∀ u ∈ [Value.int .u64 t], u.oneCell' = true) := ⟨by simp [Value.oneCell']⟩; clear hr4 hm4 hf4 hA hT)
          | (refine wpList_any rfl (.tmp 21) (.tmp 23) 23 rfl 22 (.int .u64 0) 1 8 (by kernel_rfl) info64 rfl (by decide) _ _ _ rfl hB.out.row _ _ _ rfl hn1.out hi2.out (by omega) (by omega) ?_; intro b5 c5 w5 hr5 hm5 hf5; have hC := Hidden.mk (hB.out.next hr5 hm5 hf5 (m := lt ++ [t]) (icells_snoc .u64 lt t)); clear hr5 hm5 hf5 hB hn1; have hD := Hidden.mk ((HL.out _ (HW.out.trans hC.out.mod (by simp))).holds))
          | (refine wpList_any rfl (.tmp 25) (.tmp 28) 23 rfl 22 (.int .u64 0) 1 8 (by kernel_rfl) info64 rfl (by decide) _ _ _ rfl hC.out.row _ _ _ rfl hD.out hi3.out (by omega) (by omega) ?_; intro b6 c6 w6 hr6 hm6 hf6; have hE := Hidden.mk (hC.out.next hr6 hm6 hf6 (m := lt ++ [t] ++ ld) (by simp [icells])); clear hr6 hm6 hf6 hC hD))
        go_ret
        exact ⟨_, rfl, hE.out.isl.2, HW.out.trans hE.out.mod (by simp), .inr (fun b hb => Nat.le_trans HW.out.size (hE.out.ge b hb))⟩
      | some ad =>
        have HT : Hidden (∀ W, Mod [] w W → ISl .u64 W (.slice (some ad) 0 cap) (List.take 0 ([] : List Int))) := ⟨fun W _ => ISl.end_ _ _ _ _ k2 (by simp)⟩
        have HL : Hidden (∀ W, Mod [] w W → ISl .u64 W (.slice (some ad) 0 cap) (List.drop 0 ([] : List Int))) := ⟨fun W _ => ISl.end_ _ _ _ _ k2 (by simp)⟩
        go_enter Try.func55, Try.ntmps55
        go_wp2_with fail
        refine hf.out.mono ?_
        rintro e W ⟨rfl, q, hq⟩
        have HW : Hidden (Mod [] w W) := ⟨by rw [hq]; exact (Mod.refl [] w).drewN q⟩
        clear hq hf
        have hA := Hidden.mk (WayI.empty (k := .u64) (e := 22) (Mod.refl [] W))
        have hT := Hidden.mk ((HT.out _ (HW.out.trans ((Mod.refl [] W).alloc (.cells #[] 22)) (by simp))).holds)
        have hi1 := Hidden.mk (icells_one .u64 ((List.take 0 ([] : List Int))))
        have hi3 := Hidden.mk (icells_one .u64 ((List.drop 0 ([] : List Int))))
        have hlT : Hidden (((List.take 0 ([] : List Int))).length ≤ 100000) := ⟨by rw [List.length_take]; omega⟩
        have hlD : Hidden (((List.drop 0 ([] : List Int))).length ≤ 100000) := ⟨by rw [List.length_drop]; omega⟩
        generalize (List.take 0 ([] : List Int)) = lt at *
        generalize (List.drop 0 ([] : List Int)) = ld at *
        have hlT2 := hlT.out
        have hlD2 := hlD.out
        go_wp2_with (first
          | (refine wpList_any rfl (.tmp 16) (.tmp 19) 23 rfl 22 (.int .u64 0) 1 8 (by kernel_rfl) info64 rfl (by decide) _ _ _ rfl hA.out.row _ _ _ rfl hT.out hi1.out (by omega) (by omega) ?_; intro b4 c4 w4 hr4 hm4 hf4; rw [Nat.zero_add] at hr4 hf4 ⊢; have hB := Hidden.mk ((hA.out.next hr4 hm4 hf4 (m := lt) (by simp [icells])).alloc (.cells #[.int .u64 t] 22)); have hn1 := Hidden.mk (holds_one w4 (.int .u64 t) 22 rfl); have hi2 : Hidden (∀ u ∈ [Value.int .u64 t], u.oneCell' = true) := ⟨by simp [Value.oneCell']⟩; clear hr4 hm4 hf4 hA hT)
          | (refine wpList_any rfl (.tmp 21) (.tmp 23) 23 rfl 22 (.int .u64 0) 1 8 (by kernel_rfl) info64 rfl (by decide) _ _ _ rfl hB.out.row _ _ _ rfl hn1.out hi2.out (by omega) (by omega) ?_; intro b5 c5 w5 hr5 hm5 hf5; have hC := Hidden.mk (hB.out.next hr5 hm5 hf5 (m := lt ++ [t]) (icells_snoc .u64 lt t)); clear hr5 hm5 hf5 hB hn1; have hD := Hidden.mk ((HL.out _ (HW.out.trans hC.out.mod (by simp))).holds))
          | (refine wpList_any rfl (.tmp 25) (.tmp 28) 23 rfl 22 (.int .u64 0) 1 8 (by kernel_rfl) info64 rfl (by decide) _ _ _ rfl hC.out.row _ _ _ rfl hD.out hi3.out (by omega) (by omega) ?_; intro b6 c6 w6 hr6 hm6 hf6; have hE := Hidden.mk (hC.out.next hr6 hm6 hf6 (m := lt ++ [t] ++ ld) (by simp [icells])); clear hr6 hm6 hf6 hC hD))
        go_ret
        exact ⟨_, rfl, hE.out.isl.2, HW.out.trans hE.out.mod (by simp), .inr (fun b hb => Nat.le_trans HW.out.size (hE.out.ge b hb))⟩
    · obtain ⟨b, off, cap', he, _, _, _, _⟩ := H.out.at_ hpos
      injection he with he he2 he3
      subst he he3
      clear he2
      have HT : Hidden (∀ W, Mod [] w W → ISl .u64 W (.slice (some ⟨b, off, none⟩) r cap) (l.take r)) := ⟨fun W hW => (H.out.news hW).take hrk⟩
      rcases Nat.lt_or_ge r cap with hrc | hrc
      · have hrz : ¬ cap = r := by omega
        have HL : Hidden (∀ W, Mod [] w W → ISl .u64 W (.slice (some ⟨b, off + r, none⟩) (l.length - r) (cap - r)) (l.drop r)) := ⟨fun W hW => (H.out.news hW).drop hrk⟩
        go_enter Try.func55, Try.ntmps55
        go_wp2_with fail
        refine hf.out.mono ?_
        rintro e W ⟨rfl, q, hq⟩
        have HW : Hidden (Mod [] w W) := ⟨by rw [hq]; exact (Mod.refl [] w).drewN q⟩
        clear hq hf
        have hA := Hidden.mk (WayI.empty (k := .u64) (e := 22) (Mod.refl [] W))
        have hT := Hidden.mk ((HT.out _ (HW.out.trans ((Mod.refl [] W).alloc (.cells #[] 22)) (by simp))).holds)
        have hi1 := Hidden.mk (icells_one .u64 (l.take r))
        have hi3 := Hidden.mk (icells_one .u64 (l.drop r))
        have hlT : Hidden ((l.take r).length ≤ 100000) := ⟨by rw [List.length_take]; omega⟩
        have hlD : Hidden ((l.drop r).length ≤ 100000) := ⟨by rw [List.length_drop]; omega⟩
        generalize l.take r = lt at *
        generalize l.drop r = ld at *
        have hlT2 := hlT.out
        have hlD2 := hlD.out
        go_wp2_with (first
          | (refine wpList_any rfl (.tmp 16) (.tmp 19) 23 rfl 22 (.int .u64 0) 1 8 (by kernel_rfl) info64 rfl (by decide) _ _ _ rfl hA.out.row _ _ _ rfl hT.out hi1.out (by omega) (by omega) ?_; intro b4 c4 w4 hr4 hm4 hf4; rw [Nat.zero_add] at hr4 hf4 ⊢; have hB := Hidden.mk ((hA.out.next hr4 hm4 hf4 (m := lt) (by simp [icells])).alloc (.cells #[.int .u64 t] 22)); have hn1 := Hidden.mk (holds_one w4 (.int .u64 t) 22 rfl); have hi2 : Hidden (∀ u ∈ [Value.int .u64 t], u.oneCell' = true) := ⟨by simp [Value.oneCell']⟩; clear hr4 hm4 hf4 hA hT)
          | (refine wpList_any rfl (.tmp 21) (.tmp 23) 23 rfl 22 (.int .u64 0) 1 8 (by kernel_rfl) info64 rfl (by decide) _ _ _ rfl hB.out.row _ _ _ rfl hn1.out hi2.out (by omega) (by omega) ?_; intro b5 c5 w5 hr5 hm5 hf5; have hC := Hidden.mk (hB.out.next hr5 hm5 hf5 (m := lt ++ [t]) (icells_snoc .u64 lt t)); clear hr5 hm5 hf5 hB hn1; have hD := Hidden.mk ((HL.out _ (HW.out.trans hC.out.mod (by simp))).holds))
          | (refine wpList_any rfl (.tmp 25) (.tmp 28) 23 rfl 22 (.int .u64 0) 1 8 (by kernel_rfl) info64 rfl (by decide) _ _ _ rfl hC.out.row _ _ _ rfl hD.out hi3.out (by omega) (by omega) ?_; intro b6 c6 w6 hr6 hm6 hf6; have hE := Hidden.mk (hC.out.next hr6 hm6 hf6 (m := lt ++ [t] ++ ld) (by simp [icells])); clear hr6 hm6 hf6 hC hD))
        go_ret
        exact ⟨_, rfl, hE.out.isl.2, HW.out.trans hE.out.mod (by simp), .inr (fun b hb => Nat.le_trans HW.out.size (hE.out.ge b hb))⟩
      · have hl1 : l.drop r = [] := by rw [List.drop_eq_nil_iff]; omega
        have HL : Hidden (∀ W, Mod [] w W → ISl .u64 W (.slice (some ⟨b, off, none⟩) 0 0) (l.drop r)) := ⟨fun W _ => by rw [hl1]; exact ISl.end_ _ _ _ _ (by omega) (by simp)⟩
        obtain rfl : cap = r := by omega
        have hlr : l.length = cap := by omega
        clear hrc r2 r3 hl1 hnone
        rw [hlr] at hf r1 H ⊢
        clear hlr hrk k1 hpos
        go_enter Try.func55, Try.ntmps55
        go_wp2_with fail
        refine hf.out.mono ?_
        rintro e W ⟨rfl, q, hq⟩
        have HW : Hidden (Mod [] w W) := ⟨by rw [hq]; exact (Mod.refl [] w).drewN q⟩
        clear hq hf
        have hA := Hidden.mk (WayI.empty (k := .u64) (e := 22) (Mod.refl [] W))
        have hT := Hidden.mk ((HT.out _ (HW.out.trans ((Mod.refl [] W).alloc (.cells #[] 22)) (by simp))).holds)
        have hi1 := Hidden.mk (icells_one .u64 (l.take cap))
        have hi3 := Hidden.mk (icells_one .u64 (l.drop cap))
        have hlT : Hidden ((l.take cap).length ≤ 100000) := ⟨by rw [List.length_take]; omega⟩
        have hlD : Hidden ((l.drop cap).length ≤ 100000) := ⟨by rw [List.length_drop]; omega⟩
        generalize l.take cap = lt at *
        generalize l.drop cap = ld at *
        have hlT2 := hlT.out
        have hlD2 := hlD.out
        go_wp2_with (first
          | (refine wpList_any rfl (.tmp 16) (.tmp 19) 23 rfl 22 (.int .u64 0) 1 8 (by kernel_rfl) info64 rfl (by decide) _ _ _ rfl hA.out.row _ _ _ rfl hT.out hi1.out (by omega) (by omega) ?_; intro b4 c4 w4 hr4 hm4 hf4; rw [Nat.zero_add] at hr4 hf4 ⊢; have hB := Hidden.mk ((hA.out.next hr4 hm4 hf4 (m := lt) (by simp [icells])).alloc (.cells #[.int .u64 t] 22)); have hn1 := Hidden.mk (holds_one w4 (.int .u64 t) 22 rfl); have hi2 : Hidden (∀ u ∈ [Value.int .u64 t], u.oneCell' = true) := ⟨by simp [Value.oneCell']⟩; clear hr4 hm4 hf4 hA hT)
          | (refine wpList_any rfl (.tmp 21) (.tmp 23) 23 rfl 22 (.int .u64 0) 1 8 (by kernel_rfl) info64 rfl (by decide) _ _ _ rfl hB.out.row _ _ _ rfl hn1.out hi2.out (by omega) (by omega) ?_; intro b5 c5 w5 hr5 hm5 hf5; have hC := Hidden.mk (hB.out.next hr5 hm5 hf5 (m := lt ++ [t]) (icells_snoc .u64 lt t)); clear hr5 hm5 hf5 hB hn1; have hD := Hidden.mk ((HL.out _ (HW.out.trans hC.out.mod (by simp))).holds))
          | (refine wpList_any rfl (.tmp 25) (.tmp 28) 23 rfl 22 (.int .u64 0) 1 8 (by kernel_rfl) info64 rfl (by decide) _ _ _ rfl hC.out.row _ _ _ rfl hD.out hi3.out (by omega) (by omega) ?_; intro b6 c6 w6 hr6 hm6 hf6; have hE := Hidden.mk (hC.out.next hr6 hm6 hf6 (m := lt ++ [t] ++ ld) (by simp [icells])); clear hr6 hm6 hf6 hC hD))
        go_ret
        exact ⟨_, rfl, hE.out.isl.2, HW.out.trans hE.out.mod (by simp), .inr (fun b hb => Nat.le_trans HW.out.size (hE.out.ge b hb))⟩


set_option maxHeartbeats 4000000 in
set_option maxRecDepth 100000 in
theorem drop11n {w : World} {v : Value} {l : List Int} (t : Int) (h : ISl .u64 w v l) (hl : l.length ≤ 100000) (hs : l.Pairwise (· ≤ ·)) :
    Calls Try.prog 31 #[v, .int .u64 t] w (SomeRowN w v (if t ∈ l then delL l t else l)) := by
  have hf := Hidden.mk (find11 t h (by omega) hs)
  have hss := Hidden.mk hs
  obtain ⟨a, cap, rfl, k1, k2, k3, _⟩ := id h
  have H := Hidden.mk h
  clear h hs k3
  by_cases ht : t ∈ l
  · have hpos : 0 < l.length := List.length_pos_of_mem ht
    have hr1 : rk l t < l.length := ((mem_rk hss.out).1 ht).1
    rw [decide_eq_true ht] at hf
    rw [if_pos ht]
    unfold delL
    clear ht
    generalize hr : rk l t = r at *
    clear hr
    have r0 : (0 : Int) ≤ (r : Int) := by omega
    have r1 : (r : Int) ≤ (l.length : Int) := by omega
    have r2 : (l.length : Int) ≤ (cap : Int) := by omega
    have r3 : (r : Int) ≤ (cap : Int) := by omega
    have r4 : (r : Int) + 1 ≤ (l.length : Int) := by omega
    have r5 : (r : Int) + 1 ≤ (cap : Int) := by omega
    have r6 : (0 : Int) ≤ (r : Int) + 1 := by omega
    have r7 : IntKind.i64.wrap ((r : Int) + 1) = (r : Int) + 1 := IntWalk.i64_in _ (by omega)
    have r8 : ((r : Int) + 1).toNat = r + 1 := by omega
    obtain ⟨b, off, cap', he, _, _, _, _⟩ := H.out.at_ hpos
    injection he with he he2 he3
    subst he he3
    clear he2
    have HT : Hidden (∀ W, Mod [] w W → ISl .u64 W (.slice (some ⟨b, off, none⟩) r cap) (l.take r)) := ⟨fun W hW => (H.out.news hW).take (Nat.le_of_lt hr1)⟩
    rcases Nat.lt_or_ge (r + 1) cap with hrc | hrc
    · have hrz : ¬ cap = r + 1 := by omega
      have HL : Hidden (∀ W, Mod [] w W → ISl .u64 W (.slice (some ⟨b, off + (r + 1), none⟩) (l.length - (r + 1)) (cap - (r + 1))) (l.drop (r + 1))) := ⟨fun W hW => (H.out.news hW).drop (i := r + 1) hr1⟩
      go_enter Try.func31, Try.ntmps31
      go_wp2_with fail
      refine hf.out.mono ?_
      rintro e W ⟨rfl, q, hq⟩
      have HW : Hidden (Mod [] w W) := ⟨by rw [hq]; exact (Mod.refl [] w).drewN q⟩
      clear hq hf
      have hA := Hidden.mk (WayI.empty (k := .u64) (e := 22) (Mod.refl [] W)).drew
      have hT := Hidden.mk ((HT.out _ (HW.out.trans ((Mod.refl [] W).alloc (.cells #[] 22)).drew (by simp))).holds)
      have hi1 := Hidden.mk (icells_one .u64 (l.take r))
      have hi3 := Hidden.mk (icells_one .u64 (l.drop (r + 1)))
      have hlT : Hidden ((l.take r).length ≤ 100000) := ⟨by rw [List.length_take]; omega⟩
      have hlD : Hidden ((l.drop (r + 1)).length ≤ 100000) := ⟨by rw [List.length_drop]; omega⟩
      generalize l.take r = lt at *
      generalize l.drop (r + 1) = ld at *
      have hlT2 := hlT.out
      have hlD2 := hlD.out
      go_wp2_with fail
      go_region_law (first
        | (refine step_any rfl (.tmp 16) (.tmp 19) 23 rfl 22 (.int .u64 0) 1 8 (by kernel_rfl) info64 rfl (by decide) _ _ _ rfl hA.out.row _ _ _ rfl hT.out hi1.out (by omega) (by omega) ?_; intro b4 c4 w4 hr4 hm4 hf4; simp only [Nat.zero_add] at hr4 hf4; have hB := Hidden.mk (hA.out.next hr4 hm4 hf4 (m := lt) (by simp [icells])); clear hr4 hm4 hf4 hA hT; have hD := Hidden.mk ((HL.out _ (HW.out.trans hB.out.mod (by simp))).holds))
        | (refine step_any rfl (.tmp 20) (.tmp 24) 23 rfl 22 (.int .u64 0) 1 8 (by kernel_rfl) info64 rfl (by decide) _ _ _ rfl hB.out.row _ _ _ rfl hD.out hi3.out (by omega) (by omega) ?_; intro b6 c6 w6 hr6 hm6 hf6; have hE := Hidden.mk (hB.out.next hr6 hm6 hf6 (m := lt ++ ld) (by simp [icells])); clear hr6 hm6 hf6 hB hD))
      all_goals
        go_wp2_with fail
        go_ret
        exact ⟨_, rfl, hE.out.isl.2, HW.out.trans hE.out.mod (by simp), .inr (fun b hb => Nat.le_trans HW.out.size (hE.out.ge b hb))⟩
    · have hl1 : l.drop (r + 1) = [] := by rw [List.drop_eq_nil_iff]; omega
      have HL : Hidden (∀ W, Mod [] w W → ISl .u64 W (.slice (some ⟨b, off, none⟩) 0 0) (l.drop (r + 1))) := ⟨fun W _ => by rw [hl1]; exact ISl.end_ _ _ _ _ (by omega) (by simp)⟩
      clear hl1
      obtain rfl : cap = r + 1 := by omega
      clear hrc r2 r5
      have r9 : (r : Int) ≤ (r : Int) + 1 := by omega
      go_enter Try.func31, Try.ntmps31
      go_wp2_with fail
      refine hf.out.mono ?_
      rintro e W ⟨rfl, q, hq⟩
      have HW : Hidden (Mod [] w W) := ⟨by rw [hq]; exact (Mod.refl [] w).drewN q⟩
      clear hq hf
      have hA := Hidden.mk (WayI.empty (k := .u64) (e := 22) (Mod.refl [] W)).drew
      have hT := Hidden.mk ((HT.out _ (HW.out.trans ((Mod.refl [] W).alloc (.cells #[] 22)).drew (by simp))).holds)
      have hi1 := Hidden.mk (icells_one .u64 (l.take r))
      have hi3 := Hidden.mk (icells_one .u64 (l.drop (r + 1)))
      have hlT : Hidden ((l.take r).length ≤ 100000) := ⟨by rw [List.length_take]; omega⟩
      have hlD : Hidden ((l.drop (r + 1)).length ≤ 100000) := ⟨by rw [List.length_drop]; omega⟩
      generalize l.take r = lt at *
      generalize l.drop (r + 1) = ld at *
      have hlT2 := hlT.out
      have hlD2 := hlD.out
      go_wp2_with fail
      go_region_law (first
        | (refine step_any rfl (.tmp 16) (.tmp 19) 23 rfl 22 (.int .u64 0) 1 8 (by kernel_rfl) info64 rfl (by decide) _ _ _ rfl hA.out.row _ _ _ rfl hT.out hi1.out (by omega) (by omega) ?_; intro b4 c4 w4 hr4 hm4 hf4; simp only [Nat.zero_add] at hr4 hf4; have hB := Hidden.mk (hA.out.next hr4 hm4 hf4 (m := lt) (by simp [icells])); clear hr4 hm4 hf4 hA hT; have hD := Hidden.mk ((HL.out _ (HW.out.trans hB.out.mod (by simp))).holds))
        | (refine step_any rfl (.tmp 20) (.tmp 24) 23 rfl 22 (.int .u64 0) 1 8 (by kernel_rfl) info64 rfl (by decide) _ _ _ rfl hB.out.row _ _ _ rfl hD.out hi3.out (by omega) (by omega) ?_; intro b6 c6 w6 hr6 hm6 hf6; have hE := Hidden.mk (hB.out.next hr6 hm6 hf6 (m := lt ++ ld) (by simp [icells])); clear hr6 hm6 hf6 hB hD))
      all_goals
        go_wp2_with fail
        go_ret
        exact ⟨_, rfl, hE.out.isl.2, HW.out.trans hE.out.mod (by simp), .inr (fun b hb => Nat.le_trans HW.out.size (hE.out.ge b hb))⟩
  · rw [decide_eq_false ht] at hf
    rw [if_neg ht]
    clear ht
    go_enter Try.func31, Try.ntmps31
    go_wp2_with fail
    refine hf.out.mono ?_
    rintro e W ⟨rfl, q, hq⟩
    have HW : Hidden (Mod [] w W) := ⟨by rw [hq]; exact (Mod.refl [] w).drewN q⟩
    clear hq hf
    go_wp2_with fail
    go_ret
    exact ⟨_, rfl, H.out.news HW.out, HW.out, .inl rfl⟩

set_option maxHeartbeats 1000000 in
set_option maxRecDepth 100000 in
theorem of11n {w : World} {v : Value} {l : List Int} (h : ISl .u64 w v l) (hl : l.length ≤ 10000) :
    Calls Try.prog 12 #[v] w (NewRow w (asc l)) := by
  obtain ⟨a, cap, rfl, _⟩ := h.slice_
  have H := Hidden.mk h
  clear h
  go_enter Try.func12, Try.ntmps12
  go_wp2_with fail
  go_loopw [3, 8] (fun vo vi wr => ∃ i : Nat, i ≤ l.length ∧ vi = .int .i64 i ∧ ISl .u64 wr vo (asc (l.take i)) ∧ Mod [] w wr ∧ ∀ b ∈ rb vo, w.heap.size ≤ b) (fun _ vi _ => l.length - (intOf vi).toNat)
  case atStart => exact ⟨0, by omega, rfl, by rw [List.take_zero, show asc ([] : List Int) = [] from asc_self List.Pairwise.nil]; exact ISl.nil_ _ _, Mod.refl [] w, fun b hb => by simp [rb, Value.ownBlock] at hb⟩
  case round =>
    obtain ⟨i, hi, rfl, ho, hm, hge⟩ := hrel
    by_cases hin : i < l.length
    · obtain ⟨b, off, x, rfl, _, hx, hc⟩ := (H.out.news hm).get hin
      have hle : (asc (l.take i)).length ≤ 10000 := by have := asc_le (l.take i); rw [List.length_take] at this; omega
      have HA := Hidden.mk (add11n x ho (Nat.le_trans hle (by decide)) (rises_le (asc_rises _)))
      rw [asc_step hx] at HA
      obtain ⟨p, c, rfl, _⟩ := ho.slice_
      have HM := Hidden.mk (And.intro hm hge)
      clear ho hx hm hle hge
      go_wp2_with fail
      refine HA.out.mono ?_
      rintro e w2 ⟨v2, rfl, h2, hm2, hg2⟩
      have H2 := Hidden.mk (And.intro h2 (And.intro (HM.out.1.trans hm2 (by simp)) (fun b hb => (orNew hg2 b hb).elim (HM.out.2 b) (Nat.le_trans HM.out.1.size))))
      obtain ⟨p2, c2, rfl, _⟩ := h2.slice_
      clear h2 hm2 hg2 HM HA
      go_wp2_with fail
      go_roundw
      case rel => exact ⟨i + 1, by omega, by go_num, H2.out.1, H2.out.2⟩
      case measure => simp [intOf]; omega
    · have e : i = l.length := by omega
      subst e
      rw [List.take_length] at ho
      obtain ⟨p, c, rfl, _⟩ := ho.slice_
      have H2 := Hidden.mk (And.intro ho (And.intro hm hge))
      clear ho hm hge
      go_wp2_with fail
      go_ret
      exact ⟨_, rfl, H2.out.1, H2.out.2⟩
end Go.Proofs.Ytfioekkegihkoaa
