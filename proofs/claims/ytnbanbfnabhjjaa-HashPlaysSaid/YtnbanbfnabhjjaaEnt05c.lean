/- The document's list of entries in memory: Do, one more. -/
import Derived.Test.YtnbanbfnabhjjaaEnt05b
namespace Go.Proofs.Ytnbanbfnabhjjaa
open Go.RowKit
set_option linter.unusedVariables false
set_option linter.unusedSimpArgs false
set_option maxRecDepth 100000 in
set_option maxHeartbeats 8000000 in
theorem ref05_put0 (l : EL) (v : Value) (dd lv px vv : Int) (w : World) (h : ERow w v l) (hl : l.length ≤ 1000) (hr : RiseE l) (hdd : 0 ≤ dd ∧ dd ≤ 255) (hc : dd % 4 = 0) :
    Calls Try.prog 106 #[v, .agg #[.int .u8 dd, .int .u8 lv, .int .u64 px, .int .u64 vv]] w (DoE w v (putE l (lv, px) vv) 0 (!(lk l (lv, px)).isSome)) := by
  have hbk := Blk.new w 104 #[.int .u8 dd, .int .u8 lv, .int .u64 px, .int .u64 vv]
  have hm0 := (Mod.refl [] w).alloc (.cells #[.int .u8 dd, .int .u8 lv, .int .u64 px, .int .u64 vv] 104)
  have hfind := ref05_find l v lv px (w.alloc (.cells #[.int .u8 dd, .int .u8 lv, .int .u64 px, .int .u64 vv] 104)) (h.mod hm0 (by simp)) hl
  have hpl := fposE_le l (lv, px)
  have HO := Hidden.mk hm0
  have H0 := h
  rw [fisE_lk hr]
  obtain ⟨b, cap, rfl, k1, k2⟩ := h.slice_
  cases b with
  | none =>
    have hl0 : l = [] := by
      rcases h.2 with ⟨_, hn⟩ | ⟨g, cap', cur, hv, _⟩
      · exact List.length_eq_zero_iff.1 hn
      · cases hv
    subst hl0
    have hc0 : cap = 0 := by
      rcases h.2 with ⟨hv, hn⟩ | ⟨g, cap', cur, hv, _⟩
      · injection hv with e1 e2 e3
      · cases hv
    subst hc0
    have e1 : fposE [] (lv, px) = 0 := rfl
    have e2 : fisE [] (lv, px) = false := rfl
    have e3 : putE [] (lv, px) vv = [((lv, px), vv)] := rfl
    rw [e1, e2] at hfind
    rw [e2, e3]
    clear e1 e2 e3 hpl k1 k2 hl h H0 hr hm0
    go_enter Try.func106, Try.ntmps106
    go_wp2_with fail
    refine hfind.mono ?_; clear hfind
    rintro e w1 ⟨rfl, hm1⟩
    have b0 : w1.cell? ⟨w.heap.size, 0, none⟩ = some (.int .u8 dd) := (hbk.mod hm1 (by simp)).cell 0
    have b1 : w1.cell? ⟨w.heap.size, 1, none⟩ = some (.int .u8 lv) := (hbk.mod hm1 (by simp)).cell 1
    have b2 : w1.cell? ⟨w.heap.size, 2, none⟩ = some (.int .u64 px) := (hbk.mod hm1 (by simp)).cell 2
    have b3 : w1.cell? ⟨w.heap.size, 3, none⟩ = some (.int .u64 vv) := (hbk.mod hm1 (by simp)).cell 3
    have hbl : w.heap.size < w1.heap.size := by have := hm1.size; simp at this; omega
    have hmA := HO.out.trans hm1 (by simp)
    have hW := Hidden.mk (WayE.empty hmA)
    have hmm := Hidden.mk (hmA.alloc (.cells #[] 149))
    have hbe := (hbk.mod hm1 (by simp))
    have HB := Hidden.mk hbe
    clear hm1 hbk hmA hbe
    go_wp2_with (first | (refine wpList_any rfl (.tmp 48) (.tmp 51) 99 rfl 149 (.agg #[.int .u8 0, .int .u64 0, .int .u64 0]) 3 24 (by kernel_rfl) entT_info rfl (by decide) _ _ _ rfl hW.out.row _ 0 [] rfl (.inl ⟨rfl, rfl, rfl⟩) (by simp) (by omega) (by omega) ?_; intro b2 k2' w2 hr2 hm2 hf2; have hbq := (HB.out.alloc (.cells #[] 149)).mod hm2 (fun hk => by have hk' : w.heap.size ∈ rb (.slice (some ⟨w1.heap.size, 0, none⟩) 0 0) := hk; simp [rb, Value.ownBlock] at hk'; omega); have c1 : w2.cell? ⟨w.heap.size, 1, none⟩ = some (.int .u8 lv) := hbq.cell 1; have c2 : w2.cell? ⟨w.heap.size, 2, none⟩ = some (.int .u64 px) := hbq.cell 2; have c3 : w2.cell? ⟨w.heap.size, 3, none⟩ = some (.int .u64 vv) := hbq.cell 3; clear hbq; simp only [Nat.zero_add, Nat.add_zero] at hr2 hf2; have hW2 := Hidden.mk (hW.out.next (m := []) hr2 hm2 hf2 rfl); clear hr2 hm2 hf2 hW hmm) | (refine wpList_any rfl (.tmp 53) (.tmp 61) 99 rfl 149 (.agg #[.int .u8 0, .int .u64 0, .int .u64 0]) 3 24 (by kernel_rfl) entT_info rfl (by decide) _ _ _ rfl (hW2.out.alloc (.cells #[.int .u8 lv, .int .u64 px, .int .u64 vv] 149)).row _ _ _ rfl (holdsE_new w2 _ _ _ _) (ecells_one [((lv, px), vv)]) (by omega) (by omega) ?_; intro b3 c3 w3 hr3 hm3 hf3; (try simp only [Nat.zero_add] at hr3 hf3); have hW3 := Hidden.mk ((hW2.out.alloc (.cells #[.int .u8 lv, .int .u64 px, .int .u64 vv] 149)).next (m := [] ++ [((lv, px), vv)]) hr3 hm3 hf3 (by unfold ecells; rw [List.flatMap_append]; rfl)); clear hr3 hm3 hf3 hW2) | (refine wpList_any rfl (.tmp 66) (.tmp 69) 99 rfl 149 (.agg #[.int .u8 0, .int .u64 0, .int .u64 0]) 3 24 (by kernel_rfl) entT_info rfl (by decide) _ _ _ rfl hW3.out.row _ 0 [] rfl (.inl ⟨rfl, rfl, rfl⟩) (by simp) (by omega) (by omega) ?_; intro b4 c4 w4 hr4 hm4 hf4; simp only [Nat.add_zero, List.append_nil] at hr4 hf4; have hW4 := Hidden.mk (hW3.out.next (m := [] ++ [((lv, px), vv)]) hr4 hm4 hf4 (by simp)); clear hr4 hm4 hf4 hW3))
    go_ret3
    have hW := hW4.out
    exact ⟨_, rfl, hW.row, hW.mod, fun b hb => .inr (hW.ge b hb)⟩
  | some ad =>
    obtain ⟨g, rfl⟩ : ∃ g, ad = ⟨g, 0, none⟩ := by
      rcases h.2 with ⟨hv, _⟩ | ⟨g, cap', cur, hv, _⟩
      · cases hv
      · injection hv with e1 e2 e3; injection e1 with e1; exact ⟨g, e1⟩
    have H := Hidden.mk (show Row w 149 3 (.slice (some ⟨g, 0, none⟩) l.length cap) l.length (ecells l) from h)
    cases hp : fisE l (lv, px) with
    | false =>
      rw [hp] at hfind
      have hput : Hidden (putE l (lv, px) vv = l.take (fposE l (lv, px)) ++ [((lv, px), vv)] ++ l.drop (fposE l (lv, px))) := ⟨by unfold putE; rw [hp]; simp⟩
      have hlen0 : Hidden ((putE l (lv, px) vv).length = fposE l (lv, px) + 1 + (l.length - fposE l (lv, px))) := ⟨by rw [putE_len, hp]; simp; omega⟩
      clear hp h H0 hr hm0
      generalize putE l (lv, px) vv = D at *
      generalize fposE l (lv, px) = i at *
      rcases Nat.lt_or_ge i cap with hci | hci
      all_goals
        go_enter Try.func106, Try.ntmps106
        go_wp2_with fail
        refine hfind.mono ?_; clear hfind
        rintro e w1 ⟨rfl, hm1⟩
        have b0 : w1.cell? ⟨w.heap.size, 0, none⟩ = some (.int .u8 dd) := (hbk.mod hm1 (by simp)).cell 0
        have b1 : w1.cell? ⟨w.heap.size, 1, none⟩ = some (.int .u8 lv) := (hbk.mod hm1 (by simp)).cell 1
        have b2 : w1.cell? ⟨w.heap.size, 2, none⟩ = some (.int .u64 px) := (hbk.mod hm1 (by simp)).cell 2
        have b3 : w1.cell? ⟨w.heap.size, 3, none⟩ = some (.int .u64 vv) := (hbk.mod hm1 (by simp)).cell 3
        have hbl : w.heap.size < w1.heap.size := by have := hm1.size; simp at this; omega
        have hmA := HO.out.trans hm1 (by simp)
        have hW := Hidden.mk (WayE.empty hmA)
        have hmm := Hidden.mk (hmA.alloc (.cells #[] 149))
        have hbe := (hbk.mod hm1 (by simp))
        have HB := Hidden.mk hbe
        clear hm1 hbk hmA hbe
        go_wp2_with (first | (refine wpList_any rfl (.tmp 48) (.tmp 51) 99 rfl 149 (.agg #[.int .u8 0, .int .u64 0, .int .u64 0]) 3 24 (by kernel_rfl) entT_info rfl (by decide) _ _ _ rfl hW.out.row _ _ _ rfl ((H.out.mod hmm.out (by simp)).holds_take i hpl _ (fun h => by cases h)) (by rw [ecells_take]; exact ecells_one _) (by omega) (by omega) ?_; intro b2 k2' w2 hr2 hm2 hf2; have hbq := (HB.out.alloc (.cells #[] 149)).mod hm2 (fun hk => by have hk' : w.heap.size ∈ rb (.slice (some ⟨w1.heap.size, 0, none⟩) 0 0) := hk; simp [rb, Value.ownBlock] at hk'; omega); have c1 : w2.cell? ⟨w.heap.size, 1, none⟩ = some (.int .u8 lv) := hbq.cell 1; have c2 : w2.cell? ⟨w.heap.size, 2, none⟩ = some (.int .u64 px) := hbq.cell 2; have c3 : w2.cell? ⟨w.heap.size, 3, none⟩ = some (.int .u64 vv) := hbq.cell 3; clear hbq; simp only [Nat.zero_add] at hr2 hf2; have hW2 := Hidden.mk (hW.out.next (m := l.take i) hr2 hm2 hf2 (by rw [ecells_take]; rfl)); clear hr2 hm2 hf2 hW hmm) | (refine wpList_any rfl (.tmp 53) (.tmp 61) 99 rfl 149 (.agg #[.int .u8 0, .int .u64 0, .int .u64 0]) 3 24 (by kernel_rfl) entT_info rfl (by decide) _ _ _ rfl (hW2.out.alloc (.cells #[.int .u8 lv, .int .u64 px, .int .u64 vv] 149)).row _ _ _ rfl (holdsE_new w2 _ _ _ _) (ecells_one [((lv, px), vv)]) (by omega) (by omega) ?_; intro b3 c3 w3 hr3 hm3 hf3; (try simp only [Nat.zero_add] at hr3 hf3); have hW3 := Hidden.mk ((hW2.out.alloc (.cells #[.int .u8 lv, .int .u64 px, .int .u64 vv] 149)).next (m := l.take i ++ [((lv, px), vv)]) hr3 hm3 hf3 (by unfold ecells; rw [List.flatMap_append]; rfl)); clear hr3 hm3 hf3 hW2) | (refine wpList_any rfl (.tmp 66) (.tmp 69) 99 rfl 149 (.agg #[.int .u8 0, .int .u64 0, .int .u64 0]) 3 24 (by kernel_rfl) entT_info rfl (by decide) _ _ _ rfl hW3.out.row _ _ _ rfl (by first | exact (H.out.mod hW3.out.mod (by simp)).holds_drop (i) (by omega) _ | exact (H.out.mod hW3.out.mod (by simp)).holds_drop0 (i) (by omega) _) (by rw [ecells_drop]; exact ecells_one _) (by omega) (by omega) ?_; intro b4 c4 w4 hr4 hm4 hf4; have hW4 := Hidden.mk (hW3.out.next (m := l.take i ++ [((lv, px), vv)] ++ l.drop (i)) hr4 hm4 hf4 (by rw [ecells_drop]; unfold ecells; simp only [List.flatMap_append])); clear hr4 hm4 hf4 hW3))
        go_ret3
        have hW := hW4.out
        refine ⟨_, rfl, ?_, hW.mod, fun b hb => .inr (hW.ge b hb)⟩
        have hr := hW.row
        unfold ecells at hr
        show Row _ _ _ _ D.length _
        rw [hlen0.out, hput.out]
        exact hr
    | true =>
      rw [hp] at hfind
      have hil : fposE l (lv, px) < l.length := by
        unfold fisE at hp; split at hp
        · rename_i x hx; exact (List.getElem?_eq_some_iff.1 hx).1
        · cases hp
      have hput : Hidden (putE l (lv, px) vv = l.take (fposE l (lv, px)) ++ [((lv, px), vv)] ++ l.drop (fposE l (lv, px) + 1)) := ⟨by unfold putE; rw [hp]; simp⟩
      have hlen0 : Hidden ((putE l (lv, px) vv).length = l.length) := ⟨by rw [putE_len, hp]; simp⟩
      have hsum : Hidden (fposE l (lv, px) + 1 + (l.length - (fposE l (lv, px) + 1)) = l.length) := ⟨by omega⟩
      clear hp h H0 hr hm0
      generalize putE l (lv, px) vv = D at *
      generalize fposE l (lv, px) = i at *
      have hwr : IntKind.i64.wrap ((i : Int) + 1) = (i : Int) + 1 := by rw [IntKind.wrap_i64]; omega
      have hic : i ≤ cap := by omega
      have hil2 : i + 1 ≤ l.length := by omega
      rcases (show i + 1 < cap ∨ cap = i + 1 by omega) with hci | hci
      · have hne : ¬ cap = i + 1 := by omega
        go_enter Try.func106, Try.ntmps106
        go_wp2_with fail
        refine hfind.mono ?_; clear hfind
        rintro e w1 ⟨rfl, hm1⟩
        have b0 : w1.cell? ⟨w.heap.size, 0, none⟩ = some (.int .u8 dd) := (hbk.mod hm1 (by simp)).cell 0
        have b1 : w1.cell? ⟨w.heap.size, 1, none⟩ = some (.int .u8 lv) := (hbk.mod hm1 (by simp)).cell 1
        have b2 : w1.cell? ⟨w.heap.size, 2, none⟩ = some (.int .u64 px) := (hbk.mod hm1 (by simp)).cell 2
        have b3 : w1.cell? ⟨w.heap.size, 3, none⟩ = some (.int .u64 vv) := (hbk.mod hm1 (by simp)).cell 3
        have hbl : w.heap.size < w1.heap.size := by have := hm1.size; simp at this; omega
        have hmA := HO.out.trans hm1 (by simp)
        have hW := Hidden.mk (WayE.empty hmA)
        have hmm := Hidden.mk (hmA.alloc (.cells #[] 149))
        have hbe := (hbk.mod hm1 (by simp))
        have HB := Hidden.mk hbe
        clear hm1 hbk hmA hbe
        go_wp2_with (first | (refine wpList_any rfl (.tmp 48) (.tmp 51) 99 rfl 149 (.agg #[.int .u8 0, .int .u64 0, .int .u64 0]) 3 24 (by kernel_rfl) entT_info rfl (by decide) _ _ _ rfl hW.out.row _ _ _ rfl ((H.out.mod hmm.out (by simp)).holds_take i hpl _ (fun h => by cases h)) (by rw [ecells_take]; exact ecells_one _) (by omega) (by omega) ?_; intro b2 k2' w2 hr2 hm2 hf2; have hbq := (HB.out.alloc (.cells #[] 149)).mod hm2 (fun hk => by have hk' : w.heap.size ∈ rb (.slice (some ⟨w1.heap.size, 0, none⟩) 0 0) := hk; simp [rb, Value.ownBlock] at hk'; omega); have c1 : w2.cell? ⟨w.heap.size, 1, none⟩ = some (.int .u8 lv) := hbq.cell 1; have c2 : w2.cell? ⟨w.heap.size, 2, none⟩ = some (.int .u64 px) := hbq.cell 2; have c3 : w2.cell? ⟨w.heap.size, 3, none⟩ = some (.int .u64 vv) := hbq.cell 3; clear hbq; simp only [Nat.zero_add] at hr2 hf2; have hW2 := Hidden.mk (hW.out.next (m := l.take i) hr2 hm2 hf2 (by rw [ecells_take]; rfl)); clear hr2 hm2 hf2 hW hmm) | (refine wpList_any rfl (.tmp 53) (.tmp 61) 99 rfl 149 (.agg #[.int .u8 0, .int .u64 0, .int .u64 0]) 3 24 (by kernel_rfl) entT_info rfl (by decide) _ _ _ rfl (hW2.out.alloc (.cells #[.int .u8 lv, .int .u64 px, .int .u64 vv] 149)).row _ _ _ rfl (holdsE_new w2 _ _ _ _) (ecells_one [((lv, px), vv)]) (by omega) (by omega) ?_; intro b3 c3 w3 hr3 hm3 hf3; (try simp only [Nat.zero_add] at hr3 hf3); have hW3 := Hidden.mk ((hW2.out.alloc (.cells #[.int .u8 lv, .int .u64 px, .int .u64 vv] 149)).next (m := l.take i ++ [((lv, px), vv)]) hr3 hm3 hf3 (by unfold ecells; rw [List.flatMap_append]; rfl)); clear hr3 hm3 hf3 hW2) | (refine wpList_any rfl (.tmp 66) (.tmp 69) 99 rfl 149 (.agg #[.int .u8 0, .int .u64 0, .int .u64 0]) 3 24 (by kernel_rfl) entT_info rfl (by decide) _ _ _ rfl hW3.out.row _ _ _ rfl (by first | exact (H.out.mod hW3.out.mod (by simp)).holds_drop (i + 1) (by omega) _ | exact (H.out.mod hW3.out.mod (by simp)).holds_drop0 (i + 1) (by omega) _) (by rw [ecells_drop]; exact ecells_one _) (by omega) (by omega) ?_; intro b4 c4 w4 hr4 hm4 hf4; have hW4 := Hidden.mk (hW3.out.next (m := l.take i ++ [((lv, px), vv)] ++ l.drop (i + 1)) hr4 hm4 hf4 (by rw [ecells_drop]; unfold ecells; simp only [List.flatMap_append])); clear hr4 hm4 hf4 hW3))
        go_ret3
        have hW := hW4.out
        rw [hsum.out] at hW
        refine ⟨_, rfl, ?_, hW.mod, fun b hb => .inr (hW.ge b hb)⟩
        have hr := hW.row
        unfold ecells at hr
        show Row _ _ _ _ D.length _
        rw [hlen0.out, hput.out]
        exact hr
      · subst hci
        go_enter Try.func106, Try.ntmps106
        go_wp2_with fail
        refine hfind.mono ?_; clear hfind
        rintro e w1 ⟨rfl, hm1⟩
        have b0 : w1.cell? ⟨w.heap.size, 0, none⟩ = some (.int .u8 dd) := (hbk.mod hm1 (by simp)).cell 0
        have b1 : w1.cell? ⟨w.heap.size, 1, none⟩ = some (.int .u8 lv) := (hbk.mod hm1 (by simp)).cell 1
        have b2 : w1.cell? ⟨w.heap.size, 2, none⟩ = some (.int .u64 px) := (hbk.mod hm1 (by simp)).cell 2
        have b3 : w1.cell? ⟨w.heap.size, 3, none⟩ = some (.int .u64 vv) := (hbk.mod hm1 (by simp)).cell 3
        have hbl : w.heap.size < w1.heap.size := by have := hm1.size; simp at this; omega
        have hmA := HO.out.trans hm1 (by simp)
        have hW := Hidden.mk (WayE.empty hmA)
        have hmm := Hidden.mk (hmA.alloc (.cells #[] 149))
        have hbe := (hbk.mod hm1 (by simp))
        have HB := Hidden.mk hbe
        clear hm1 hbk hmA hbe
        go_wp2_with (first | (refine wpList_any rfl (.tmp 48) (.tmp 51) 99 rfl 149 (.agg #[.int .u8 0, .int .u64 0, .int .u64 0]) 3 24 (by kernel_rfl) entT_info rfl (by decide) _ _ _ rfl hW.out.row _ _ _ rfl ((H.out.mod hmm.out (by simp)).holds_take i hpl _ (fun h => by cases h)) (by rw [ecells_take]; exact ecells_one _) (by omega) (by omega) ?_; intro b2 k2' w2 hr2 hm2 hf2; have hbq := (HB.out.alloc (.cells #[] 149)).mod hm2 (fun hk => by have hk' : w.heap.size ∈ rb (.slice (some ⟨w1.heap.size, 0, none⟩) 0 0) := hk; simp [rb, Value.ownBlock] at hk'; omega); have c1 : w2.cell? ⟨w.heap.size, 1, none⟩ = some (.int .u8 lv) := hbq.cell 1; have c2 : w2.cell? ⟨w.heap.size, 2, none⟩ = some (.int .u64 px) := hbq.cell 2; have c3 : w2.cell? ⟨w.heap.size, 3, none⟩ = some (.int .u64 vv) := hbq.cell 3; clear hbq; simp only [Nat.zero_add] at hr2 hf2; have hW2 := Hidden.mk (hW.out.next (m := l.take i) hr2 hm2 hf2 (by rw [ecells_take]; rfl)); clear hr2 hm2 hf2 hW hmm) | (refine wpList_any rfl (.tmp 53) (.tmp 61) 99 rfl 149 (.agg #[.int .u8 0, .int .u64 0, .int .u64 0]) 3 24 (by kernel_rfl) entT_info rfl (by decide) _ _ _ rfl (hW2.out.alloc (.cells #[.int .u8 lv, .int .u64 px, .int .u64 vv] 149)).row _ _ _ rfl (holdsE_new w2 _ _ _ _) (ecells_one [((lv, px), vv)]) (by omega) (by omega) ?_; intro b3 c3 w3 hr3 hm3 hf3; (try simp only [Nat.zero_add] at hr3 hf3); have hW3 := Hidden.mk ((hW2.out.alloc (.cells #[.int .u8 lv, .int .u64 px, .int .u64 vv] 149)).next (m := l.take i ++ [((lv, px), vv)]) hr3 hm3 hf3 (by unfold ecells; rw [List.flatMap_append]; rfl)); clear hr3 hm3 hf3 hW2) | (refine wpList_any rfl (.tmp 66) (.tmp 69) 99 rfl 149 (.agg #[.int .u8 0, .int .u64 0, .int .u64 0]) 3 24 (by kernel_rfl) entT_info rfl (by decide) _ _ _ rfl hW3.out.row _ 0 [] rfl (.inr ⟨_, _, rfl, rfl, fun j u hj => by simp at hj⟩) (by simp) (by omega) (by omega) ?_; intro b4 c4 w4 hr4 hm4 hf4; simp only [Nat.add_zero, List.append_nil] at hr4 hf4; have hW4 := Hidden.mk (hW3.out.next (m := l.take i ++ [((lv, px), vv)]) hr4 hm4 hf4 rfl); clear hr4 hm4 hf4 hW3))
        go_ret3
        have hW := hW4.out
        refine ⟨_, rfl, ?_, hW.mod, fun b hb => .inr (hW.ge b hb)⟩
        have hr := hW.row
        unfold ecells at hr
        have hdr : l.drop (i + 1) = [] := by rw [List.drop_eq_nil_iff]; omega
        show Row _ _ _ _ D.length _
        rw [hlen0.out, hput.out, hdr, List.append_nil, show l.length = i + 1 from by omega]
        exact hr
set_option maxRecDepth 100000 in
set_option maxHeartbeats 8000000 in
theorem ref05_put1 (l : EL) (v : Value) (dd lv px vv : Int) (w : World) (h : ERow w v l) (hl : l.length ≤ 1000) (hr : RiseE l) (hdd : 0 ≤ dd ∧ dd ≤ 255) (hc : dd % 4 = 1) :
    Calls Try.prog 106 #[v, .agg #[.int .u8 dd, .int .u8 lv, .int .u64 px, .int .u64 vv]] w (DoE w v (putE l (lv, px) vv) 0 (!(lk l (lv, px)).isSome)) := by
  have hbk := Blk.new w 104 #[.int .u8 dd, .int .u8 lv, .int .u64 px, .int .u64 vv]
  have hm0 := (Mod.refl [] w).alloc (.cells #[.int .u8 dd, .int .u8 lv, .int .u64 px, .int .u64 vv] 104)
  have hfind := ref05_find l v lv px (w.alloc (.cells #[.int .u8 dd, .int .u8 lv, .int .u64 px, .int .u64 vv] 104)) (h.mod hm0 (by simp)) hl
  have hpl := fposE_le l (lv, px)
  have HO := Hidden.mk hm0
  have H0 := h
  rw [fisE_lk hr]
  obtain ⟨b, cap, rfl, k1, k2⟩ := h.slice_
  cases b with
  | none =>
    have hl0 : l = [] := by
      rcases h.2 with ⟨_, hn⟩ | ⟨g, cap', cur, hv, _⟩
      · exact List.length_eq_zero_iff.1 hn
      · cases hv
    subst hl0
    have hc0 : cap = 0 := by
      rcases h.2 with ⟨hv, hn⟩ | ⟨g, cap', cur, hv, _⟩
      · injection hv with e1 e2 e3
      · cases hv
    subst hc0
    have e1 : fposE [] (lv, px) = 0 := rfl
    have e2 : fisE [] (lv, px) = false := rfl
    have e3 : putE [] (lv, px) vv = [((lv, px), vv)] := rfl
    rw [e1, e2] at hfind
    rw [e2, e3]
    clear e1 e2 e3 hpl k1 k2 hl h H0 hr hm0
    go_enter Try.func106, Try.ntmps106
    go_wp2_with fail
    refine hfind.mono ?_; clear hfind
    rintro e w1 ⟨rfl, hm1⟩
    have b0 : w1.cell? ⟨w.heap.size, 0, none⟩ = some (.int .u8 dd) := (hbk.mod hm1 (by simp)).cell 0
    have b1 : w1.cell? ⟨w.heap.size, 1, none⟩ = some (.int .u8 lv) := (hbk.mod hm1 (by simp)).cell 1
    have b2 : w1.cell? ⟨w.heap.size, 2, none⟩ = some (.int .u64 px) := (hbk.mod hm1 (by simp)).cell 2
    have b3 : w1.cell? ⟨w.heap.size, 3, none⟩ = some (.int .u64 vv) := (hbk.mod hm1 (by simp)).cell 3
    have hbl : w.heap.size < w1.heap.size := by have := hm1.size; simp at this; omega
    have hmA := HO.out.trans hm1 (by simp)
    have hW := Hidden.mk (WayE.empty hmA)
    have hmm := Hidden.mk (hmA.alloc (.cells #[] 149))
    have hbe := (hbk.mod hm1 (by simp))
    have HB := Hidden.mk hbe
    clear hm1 hbk hmA hbe
    go_wp2_with (first | (refine wpList_any rfl (.tmp 48) (.tmp 51) 99 rfl 149 (.agg #[.int .u8 0, .int .u64 0, .int .u64 0]) 3 24 (by kernel_rfl) entT_info rfl (by decide) _ _ _ rfl hW.out.row _ 0 [] rfl (.inl ⟨rfl, rfl, rfl⟩) (by simp) (by omega) (by omega) ?_; intro b2 k2' w2 hr2 hm2 hf2; have hbq := (HB.out.alloc (.cells #[] 149)).mod hm2 (fun hk => by have hk' : w.heap.size ∈ rb (.slice (some ⟨w1.heap.size, 0, none⟩) 0 0) := hk; simp [rb, Value.ownBlock] at hk'; omega); have c1 : w2.cell? ⟨w.heap.size, 1, none⟩ = some (.int .u8 lv) := hbq.cell 1; have c2 : w2.cell? ⟨w.heap.size, 2, none⟩ = some (.int .u64 px) := hbq.cell 2; have c3 : w2.cell? ⟨w.heap.size, 3, none⟩ = some (.int .u64 vv) := hbq.cell 3; clear hbq; simp only [Nat.zero_add, Nat.add_zero] at hr2 hf2; have hW2 := Hidden.mk (hW.out.next (m := []) hr2 hm2 hf2 rfl); clear hr2 hm2 hf2 hW hmm) | (refine wpList_any rfl (.tmp 53) (.tmp 61) 99 rfl 149 (.agg #[.int .u8 0, .int .u64 0, .int .u64 0]) 3 24 (by kernel_rfl) entT_info rfl (by decide) _ _ _ rfl (hW2.out.alloc (.cells #[.int .u8 lv, .int .u64 px, .int .u64 vv] 149)).row _ _ _ rfl (holdsE_new w2 _ _ _ _) (ecells_one [((lv, px), vv)]) (by omega) (by omega) ?_; intro b3 c3 w3 hr3 hm3 hf3; (try simp only [Nat.zero_add] at hr3 hf3); have hW3 := Hidden.mk ((hW2.out.alloc (.cells #[.int .u8 lv, .int .u64 px, .int .u64 vv] 149)).next (m := [] ++ [((lv, px), vv)]) hr3 hm3 hf3 (by unfold ecells; rw [List.flatMap_append]; rfl)); clear hr3 hm3 hf3 hW2) | (refine wpList_any rfl (.tmp 66) (.tmp 69) 99 rfl 149 (.agg #[.int .u8 0, .int .u64 0, .int .u64 0]) 3 24 (by kernel_rfl) entT_info rfl (by decide) _ _ _ rfl hW3.out.row _ 0 [] rfl (.inl ⟨rfl, rfl, rfl⟩) (by simp) (by omega) (by omega) ?_; intro b4 c4 w4 hr4 hm4 hf4; simp only [Nat.add_zero, List.append_nil] at hr4 hf4; have hW4 := Hidden.mk (hW3.out.next (m := [] ++ [((lv, px), vv)]) hr4 hm4 hf4 (by simp)); clear hr4 hm4 hf4 hW3))
    go_ret3
    have hW := hW4.out
    exact ⟨_, rfl, hW.row, hW.mod, fun b hb => .inr (hW.ge b hb)⟩
  | some ad =>
    obtain ⟨g, rfl⟩ : ∃ g, ad = ⟨g, 0, none⟩ := by
      rcases h.2 with ⟨hv, _⟩ | ⟨g, cap', cur, hv, _⟩
      · cases hv
      · injection hv with e1 e2 e3; injection e1 with e1; exact ⟨g, e1⟩
    have H := Hidden.mk (show Row w 149 3 (.slice (some ⟨g, 0, none⟩) l.length cap) l.length (ecells l) from h)
    cases hp : fisE l (lv, px) with
    | false =>
      rw [hp] at hfind
      have hput : Hidden (putE l (lv, px) vv = l.take (fposE l (lv, px)) ++ [((lv, px), vv)] ++ l.drop (fposE l (lv, px))) := ⟨by unfold putE; rw [hp]; simp⟩
      have hlen0 : Hidden ((putE l (lv, px) vv).length = fposE l (lv, px) + 1 + (l.length - fposE l (lv, px))) := ⟨by rw [putE_len, hp]; simp; omega⟩
      clear hp h H0 hr hm0
      generalize putE l (lv, px) vv = D at *
      generalize fposE l (lv, px) = i at *
      rcases Nat.lt_or_ge i cap with hci | hci
      all_goals
        go_enter Try.func106, Try.ntmps106
        go_wp2_with fail
        refine hfind.mono ?_; clear hfind
        rintro e w1 ⟨rfl, hm1⟩
        have b0 : w1.cell? ⟨w.heap.size, 0, none⟩ = some (.int .u8 dd) := (hbk.mod hm1 (by simp)).cell 0
        have b1 : w1.cell? ⟨w.heap.size, 1, none⟩ = some (.int .u8 lv) := (hbk.mod hm1 (by simp)).cell 1
        have b2 : w1.cell? ⟨w.heap.size, 2, none⟩ = some (.int .u64 px) := (hbk.mod hm1 (by simp)).cell 2
        have b3 : w1.cell? ⟨w.heap.size, 3, none⟩ = some (.int .u64 vv) := (hbk.mod hm1 (by simp)).cell 3
        have hbl : w.heap.size < w1.heap.size := by have := hm1.size; simp at this; omega
        have hmA := HO.out.trans hm1 (by simp)
        have hW := Hidden.mk (WayE.empty hmA)
        have hmm := Hidden.mk (hmA.alloc (.cells #[] 149))
        have hbe := (hbk.mod hm1 (by simp))
        have HB := Hidden.mk hbe
        clear hm1 hbk hmA hbe
        go_wp2_with (first | (refine wpList_any rfl (.tmp 48) (.tmp 51) 99 rfl 149 (.agg #[.int .u8 0, .int .u64 0, .int .u64 0]) 3 24 (by kernel_rfl) entT_info rfl (by decide) _ _ _ rfl hW.out.row _ _ _ rfl ((H.out.mod hmm.out (by simp)).holds_take i hpl _ (fun h => by cases h)) (by rw [ecells_take]; exact ecells_one _) (by omega) (by omega) ?_; intro b2 k2' w2 hr2 hm2 hf2; have hbq := (HB.out.alloc (.cells #[] 149)).mod hm2 (fun hk => by have hk' : w.heap.size ∈ rb (.slice (some ⟨w1.heap.size, 0, none⟩) 0 0) := hk; simp [rb, Value.ownBlock] at hk'; omega); have c1 : w2.cell? ⟨w.heap.size, 1, none⟩ = some (.int .u8 lv) := hbq.cell 1; have c2 : w2.cell? ⟨w.heap.size, 2, none⟩ = some (.int .u64 px) := hbq.cell 2; have c3 : w2.cell? ⟨w.heap.size, 3, none⟩ = some (.int .u64 vv) := hbq.cell 3; clear hbq; simp only [Nat.zero_add] at hr2 hf2; have hW2 := Hidden.mk (hW.out.next (m := l.take i) hr2 hm2 hf2 (by rw [ecells_take]; rfl)); clear hr2 hm2 hf2 hW hmm) | (refine wpList_any rfl (.tmp 53) (.tmp 61) 99 rfl 149 (.agg #[.int .u8 0, .int .u64 0, .int .u64 0]) 3 24 (by kernel_rfl) entT_info rfl (by decide) _ _ _ rfl (hW2.out.alloc (.cells #[.int .u8 lv, .int .u64 px, .int .u64 vv] 149)).row _ _ _ rfl (holdsE_new w2 _ _ _ _) (ecells_one [((lv, px), vv)]) (by omega) (by omega) ?_; intro b3 c3 w3 hr3 hm3 hf3; (try simp only [Nat.zero_add] at hr3 hf3); have hW3 := Hidden.mk ((hW2.out.alloc (.cells #[.int .u8 lv, .int .u64 px, .int .u64 vv] 149)).next (m := l.take i ++ [((lv, px), vv)]) hr3 hm3 hf3 (by unfold ecells; rw [List.flatMap_append]; rfl)); clear hr3 hm3 hf3 hW2) | (refine wpList_any rfl (.tmp 66) (.tmp 69) 99 rfl 149 (.agg #[.int .u8 0, .int .u64 0, .int .u64 0]) 3 24 (by kernel_rfl) entT_info rfl (by decide) _ _ _ rfl hW3.out.row _ _ _ rfl (by first | exact (H.out.mod hW3.out.mod (by simp)).holds_drop (i) (by omega) _ | exact (H.out.mod hW3.out.mod (by simp)).holds_drop0 (i) (by omega) _) (by rw [ecells_drop]; exact ecells_one _) (by omega) (by omega) ?_; intro b4 c4 w4 hr4 hm4 hf4; have hW4 := Hidden.mk (hW3.out.next (m := l.take i ++ [((lv, px), vv)] ++ l.drop (i)) hr4 hm4 hf4 (by rw [ecells_drop]; unfold ecells; simp only [List.flatMap_append])); clear hr4 hm4 hf4 hW3))
        go_ret3
        have hW := hW4.out
        refine ⟨_, rfl, ?_, hW.mod, fun b hb => .inr (hW.ge b hb)⟩
        have hr := hW.row
        unfold ecells at hr
        show Row _ _ _ _ D.length _
        rw [hlen0.out, hput.out]
        exact hr
    | true =>
      rw [hp] at hfind
      have hil : fposE l (lv, px) < l.length := by
        unfold fisE at hp; split at hp
        · rename_i x hx; exact (List.getElem?_eq_some_iff.1 hx).1
        · cases hp
      have hput : Hidden (putE l (lv, px) vv = l.take (fposE l (lv, px)) ++ [((lv, px), vv)] ++ l.drop (fposE l (lv, px) + 1)) := ⟨by unfold putE; rw [hp]; simp⟩
      have hlen0 : Hidden ((putE l (lv, px) vv).length = l.length) := ⟨by rw [putE_len, hp]; simp⟩
      have hsum : Hidden (fposE l (lv, px) + 1 + (l.length - (fposE l (lv, px) + 1)) = l.length) := ⟨by omega⟩
      clear hp h H0 hr hm0
      generalize putE l (lv, px) vv = D at *
      generalize fposE l (lv, px) = i at *
      have hwr : IntKind.i64.wrap ((i : Int) + 1) = (i : Int) + 1 := by rw [IntKind.wrap_i64]; omega
      have hic : i ≤ cap := by omega
      have hil2 : i + 1 ≤ l.length := by omega
      rcases (show i + 1 < cap ∨ cap = i + 1 by omega) with hci | hci
      · have hne : ¬ cap = i + 1 := by omega
        go_enter Try.func106, Try.ntmps106
        go_wp2_with fail
        refine hfind.mono ?_; clear hfind
        rintro e w1 ⟨rfl, hm1⟩
        have b0 : w1.cell? ⟨w.heap.size, 0, none⟩ = some (.int .u8 dd) := (hbk.mod hm1 (by simp)).cell 0
        have b1 : w1.cell? ⟨w.heap.size, 1, none⟩ = some (.int .u8 lv) := (hbk.mod hm1 (by simp)).cell 1
        have b2 : w1.cell? ⟨w.heap.size, 2, none⟩ = some (.int .u64 px) := (hbk.mod hm1 (by simp)).cell 2
        have b3 : w1.cell? ⟨w.heap.size, 3, none⟩ = some (.int .u64 vv) := (hbk.mod hm1 (by simp)).cell 3
        have hbl : w.heap.size < w1.heap.size := by have := hm1.size; simp at this; omega
        have hmA := HO.out.trans hm1 (by simp)
        have hW := Hidden.mk (WayE.empty hmA)
        have hmm := Hidden.mk (hmA.alloc (.cells #[] 149))
        have hbe := (hbk.mod hm1 (by simp))
        have HB := Hidden.mk hbe
        clear hm1 hbk hmA hbe
        go_wp2_with (first | (refine wpList_any rfl (.tmp 48) (.tmp 51) 99 rfl 149 (.agg #[.int .u8 0, .int .u64 0, .int .u64 0]) 3 24 (by kernel_rfl) entT_info rfl (by decide) _ _ _ rfl hW.out.row _ _ _ rfl ((H.out.mod hmm.out (by simp)).holds_take i hpl _ (fun h => by cases h)) (by rw [ecells_take]; exact ecells_one _) (by omega) (by omega) ?_; intro b2 k2' w2 hr2 hm2 hf2; have hbq := (HB.out.alloc (.cells #[] 149)).mod hm2 (fun hk => by have hk' : w.heap.size ∈ rb (.slice (some ⟨w1.heap.size, 0, none⟩) 0 0) := hk; simp [rb, Value.ownBlock] at hk'; omega); have c1 : w2.cell? ⟨w.heap.size, 1, none⟩ = some (.int .u8 lv) := hbq.cell 1; have c2 : w2.cell? ⟨w.heap.size, 2, none⟩ = some (.int .u64 px) := hbq.cell 2; have c3 : w2.cell? ⟨w.heap.size, 3, none⟩ = some (.int .u64 vv) := hbq.cell 3; clear hbq; simp only [Nat.zero_add] at hr2 hf2; have hW2 := Hidden.mk (hW.out.next (m := l.take i) hr2 hm2 hf2 (by rw [ecells_take]; rfl)); clear hr2 hm2 hf2 hW hmm) | (refine wpList_any rfl (.tmp 53) (.tmp 61) 99 rfl 149 (.agg #[.int .u8 0, .int .u64 0, .int .u64 0]) 3 24 (by kernel_rfl) entT_info rfl (by decide) _ _ _ rfl (hW2.out.alloc (.cells #[.int .u8 lv, .int .u64 px, .int .u64 vv] 149)).row _ _ _ rfl (holdsE_new w2 _ _ _ _) (ecells_one [((lv, px), vv)]) (by omega) (by omega) ?_; intro b3 c3 w3 hr3 hm3 hf3; (try simp only [Nat.zero_add] at hr3 hf3); have hW3 := Hidden.mk ((hW2.out.alloc (.cells #[.int .u8 lv, .int .u64 px, .int .u64 vv] 149)).next (m := l.take i ++ [((lv, px), vv)]) hr3 hm3 hf3 (by unfold ecells; rw [List.flatMap_append]; rfl)); clear hr3 hm3 hf3 hW2) | (refine wpList_any rfl (.tmp 66) (.tmp 69) 99 rfl 149 (.agg #[.int .u8 0, .int .u64 0, .int .u64 0]) 3 24 (by kernel_rfl) entT_info rfl (by decide) _ _ _ rfl hW3.out.row _ _ _ rfl (by first | exact (H.out.mod hW3.out.mod (by simp)).holds_drop (i + 1) (by omega) _ | exact (H.out.mod hW3.out.mod (by simp)).holds_drop0 (i + 1) (by omega) _) (by rw [ecells_drop]; exact ecells_one _) (by omega) (by omega) ?_; intro b4 c4 w4 hr4 hm4 hf4; have hW4 := Hidden.mk (hW3.out.next (m := l.take i ++ [((lv, px), vv)] ++ l.drop (i + 1)) hr4 hm4 hf4 (by rw [ecells_drop]; unfold ecells; simp only [List.flatMap_append])); clear hr4 hm4 hf4 hW3))
        go_ret3
        have hW := hW4.out
        rw [hsum.out] at hW
        refine ⟨_, rfl, ?_, hW.mod, fun b hb => .inr (hW.ge b hb)⟩
        have hr := hW.row
        unfold ecells at hr
        show Row _ _ _ _ D.length _
        rw [hlen0.out, hput.out]
        exact hr
      · subst hci
        go_enter Try.func106, Try.ntmps106
        go_wp2_with fail
        refine hfind.mono ?_; clear hfind
        rintro e w1 ⟨rfl, hm1⟩
        have b0 : w1.cell? ⟨w.heap.size, 0, none⟩ = some (.int .u8 dd) := (hbk.mod hm1 (by simp)).cell 0
        have b1 : w1.cell? ⟨w.heap.size, 1, none⟩ = some (.int .u8 lv) := (hbk.mod hm1 (by simp)).cell 1
        have b2 : w1.cell? ⟨w.heap.size, 2, none⟩ = some (.int .u64 px) := (hbk.mod hm1 (by simp)).cell 2
        have b3 : w1.cell? ⟨w.heap.size, 3, none⟩ = some (.int .u64 vv) := (hbk.mod hm1 (by simp)).cell 3
        have hbl : w.heap.size < w1.heap.size := by have := hm1.size; simp at this; omega
        have hmA := HO.out.trans hm1 (by simp)
        have hW := Hidden.mk (WayE.empty hmA)
        have hmm := Hidden.mk (hmA.alloc (.cells #[] 149))
        have hbe := (hbk.mod hm1 (by simp))
        have HB := Hidden.mk hbe
        clear hm1 hbk hmA hbe
        go_wp2_with (first | (refine wpList_any rfl (.tmp 48) (.tmp 51) 99 rfl 149 (.agg #[.int .u8 0, .int .u64 0, .int .u64 0]) 3 24 (by kernel_rfl) entT_info rfl (by decide) _ _ _ rfl hW.out.row _ _ _ rfl ((H.out.mod hmm.out (by simp)).holds_take i hpl _ (fun h => by cases h)) (by rw [ecells_take]; exact ecells_one _) (by omega) (by omega) ?_; intro b2 k2' w2 hr2 hm2 hf2; have hbq := (HB.out.alloc (.cells #[] 149)).mod hm2 (fun hk => by have hk' : w.heap.size ∈ rb (.slice (some ⟨w1.heap.size, 0, none⟩) 0 0) := hk; simp [rb, Value.ownBlock] at hk'; omega); have c1 : w2.cell? ⟨w.heap.size, 1, none⟩ = some (.int .u8 lv) := hbq.cell 1; have c2 : w2.cell? ⟨w.heap.size, 2, none⟩ = some (.int .u64 px) := hbq.cell 2; have c3 : w2.cell? ⟨w.heap.size, 3, none⟩ = some (.int .u64 vv) := hbq.cell 3; clear hbq; simp only [Nat.zero_add] at hr2 hf2; have hW2 := Hidden.mk (hW.out.next (m := l.take i) hr2 hm2 hf2 (by rw [ecells_take]; rfl)); clear hr2 hm2 hf2 hW hmm) | (refine wpList_any rfl (.tmp 53) (.tmp 61) 99 rfl 149 (.agg #[.int .u8 0, .int .u64 0, .int .u64 0]) 3 24 (by kernel_rfl) entT_info rfl (by decide) _ _ _ rfl (hW2.out.alloc (.cells #[.int .u8 lv, .int .u64 px, .int .u64 vv] 149)).row _ _ _ rfl (holdsE_new w2 _ _ _ _) (ecells_one [((lv, px), vv)]) (by omega) (by omega) ?_; intro b3 c3 w3 hr3 hm3 hf3; (try simp only [Nat.zero_add] at hr3 hf3); have hW3 := Hidden.mk ((hW2.out.alloc (.cells #[.int .u8 lv, .int .u64 px, .int .u64 vv] 149)).next (m := l.take i ++ [((lv, px), vv)]) hr3 hm3 hf3 (by unfold ecells; rw [List.flatMap_append]; rfl)); clear hr3 hm3 hf3 hW2) | (refine wpList_any rfl (.tmp 66) (.tmp 69) 99 rfl 149 (.agg #[.int .u8 0, .int .u64 0, .int .u64 0]) 3 24 (by kernel_rfl) entT_info rfl (by decide) _ _ _ rfl hW3.out.row _ 0 [] rfl (.inr ⟨_, _, rfl, rfl, fun j u hj => by simp at hj⟩) (by simp) (by omega) (by omega) ?_; intro b4 c4 w4 hr4 hm4 hf4; simp only [Nat.add_zero, List.append_nil] at hr4 hf4; have hW4 := Hidden.mk (hW3.out.next (m := l.take i ++ [((lv, px), vv)]) hr4 hm4 hf4 rfl); clear hr4 hm4 hf4 hW3))
        go_ret3
        have hW := hW4.out
        refine ⟨_, rfl, ?_, hW.mod, fun b hb => .inr (hW.ge b hb)⟩
        have hr := hW.row
        unfold ecells at hr
        have hdr : l.drop (i + 1) = [] := by rw [List.drop_eq_nil_iff]; omega
        show Row _ _ _ _ D.length _
        rw [hlen0.out, hput.out, hdr, List.append_nil, show l.length = i + 1 from by omega]
        exact hr
end Go.Proofs.Ytnbanbfnabhjjaa
