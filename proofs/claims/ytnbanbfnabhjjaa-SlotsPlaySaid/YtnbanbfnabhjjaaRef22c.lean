/- The document's pairs in memory: Drop. -/
import Derived.Test.YtnbanbfnabhjjaaRef22b
namespace Go.Proofs.Ytnbanbfnabhjjaa
open Go.RowKit
set_option linter.unusedVariables false
set_option linter.unusedSimpArgs false
theorem Way.drew {w w' : World} {v : Value} {n : Nat} {l : PL} (h : Way w w' v n l) : Way w w'.drew v n l := ⟨h.row.drew, h.mod.drew, h.ge⟩
set_option maxRecDepth 100000 in
set_option maxHeartbeats 2000000 in
theorem ref22_drop (l : PL) (k : Int) (v : Value) (w : World) (h : PRow w v l) (hl : l.length ≤ 1000) :
    Calls Try.prog 64 #[v, .int .u64 k] w fun e w' => ∃ v', e = .returned v' ∧ PRow w' v' (pdrop l k) ∧ Mod [] w w' ∧ ∀ b ∈ rb v', b ∈ rb v ∨ w.heap.size ≤ b := by
  have hpl := pfind_le l k
  have hfind := ref22_find l k v w h
  have H := Hidden.mk h
  obtain ⟨a, cap, rfl, k1, k2⟩ := h.slice_
  cases hp : pis l k with
  | false =>
    have hd : pdrop l k = l := by unfold pdrop; rw [hp]; simp
    rw [hd]
    rw [hp] at hfind
    clear h hd hp
    go_enter Try.func64, Try.ntmps64
    go_wp2_with fail
    refine hfind.mono ?_
    rintro e w1 ⟨rfl, hm1⟩
    have hm := Hidden.mk hm1
    clear hm1
    go_wp2_with fail
    go_ret
    exact ⟨_, rfl, H.out.mod hm.out (by simp), hm.out, fun b hb => .inl hb⟩
  | true =>
    have hil : pfind l k < l.length := by
      obtain ⟨v, h1, _⟩ := pget_eq k hp
      exact (List.getElem?_eq_some_iff.1 h1).1
    have hput : Hidden (pdrop l k = l.take (pfind l k) ++ l.drop (pfind l k + 1)) := ⟨by unfold pdrop; rw [hp]; simp⟩
    obtain ⟨g, rfl⟩ : ∃ g, a = some ⟨g, 0, none⟩ := by
      rcases h.2 with ⟨hv, hn⟩ | ⟨g, cap', cur, hv, _⟩
      · omega
      · injection hv with e1 e2 e3; exact ⟨g, e1⟩
    rw [hp] at hfind
    clear h hp
    generalize pfind l k = i at *
    have hwr : IntKind.i64.wrap ((i : Int) + 1) = (i : Int) + 1 := by rw [IntKind.wrap_i64]; omega
    have hil2 : i + 1 ≤ l.length := by omega
    have hic : i ≤ cap := by omega
    have hia : (0 : Int) ≤ (i : Int) + 1 := by omega
    have hib : (i : Int) + 1 ≤ (l.length : Int) := by omega
    have hid : (i : Int) ≤ (i : Int) + 1 := by omega
    rcases (show i + 1 < cap ∨ cap = i + 1 by omega) with hci | rfl
    · have hne : ¬ cap = i + 1 := by omega
      have hle : i + 1 ≤ cap := by omega
      go_enter Try.func64, Try.ntmps64
      go_wp2_with fail
      refine hfind.mono ?_
      rintro e w1 ⟨rfl, hm1⟩
      have hW := Hidden.mk (Way.empty hm1).drew
      have hmm := Hidden.mk (hm1.alloc (.cells #[] 92)).drew
      clear hm1 hfind
      go_wp2_with fail
      go_region_law (first | (refine step_any rfl (.tmp 16) (.tmp 19) 86 rfl 92 _ 2 16 (by kernel_rfl) pairs_info rfl (by decide) _ _ _ rfl hW.out.row _ _ _ rfl ((H.out.mod hmm.out (by simp)).holds_take i hpl _ (fun h => by cases h)) (by rw [pcells_take]; exact pcells_one _) (by omega) (by omega) ?_; intro b2 c2 w2 hr2 hm2 hf2; simp only [Nat.zero_add] at hr2 hf2; have hW2 := Hidden.mk (hW.out.next (m := l.take i) hr2 hm2 hf2 (by rw [pcells_take]; rfl)); clear hr2 hm2 hf2 hW hmm) | (refine step_any rfl (.tmp 20) (.tmp 24) 86 rfl 92 _ 2 16 (by kernel_rfl) pairs_info rfl (by decide) _ _ _ rfl hW2.out.row _ _ _ rfl ((H.out.mod hW2.out.mod (by simp)).holds_drop (i + 1) (by omega) _) (by rw [pcells_drop]; exact pcells_one _) (by omega) (by omega) ?_; intro b4 c4 w4 hr4 hm4 hf4; have hW4 := Hidden.mk (hW2.out.next (m := l.take i ++ l.drop (i + 1)) hr4 hm4 hf4 (by rw [pcells_drop]; unfold pcells; simp only [List.flatMap_append])); clear hr4 hm4 hf4 hW2))
      all_goals
        go_wp2_with fail
        go_ret
        have hlen : i + (l.length - (i + 1)) = (pdrop l k).length := by rw [hput.out]; simp; omega
        have hW := hW4.out
        refine ⟨_, rfl, ?_, hW.mod, fun b hb => .inr (hW.ge b hb)⟩
        rw [hput.out]
        have hr := hW.row
        unfold PRow
        rw [hput.out] at hlen
        rw [← hlen]
        exact hr
    · have hdr : l.drop (i + 1) = [] := by rw [List.drop_eq_nil_iff]; omega
      have HD := Hidden.mk hdr
      clear hdr
      go_enter Try.func64, Try.ntmps64
      go_wp2_with fail
      refine hfind.mono ?_
      rintro e w1 ⟨rfl, hm1⟩
      have hW := Hidden.mk (Way.empty hm1).drew
      have hmm := Hidden.mk (hm1.alloc (.cells #[] 92)).drew
      clear hm1 hfind
      go_wp2_with fail
      go_region_law (first | (refine step_any rfl (.tmp 16) (.tmp 19) 86 rfl 92 _ 2 16 (by kernel_rfl) pairs_info rfl (by decide) _ _ _ rfl hW.out.row _ _ _ rfl ((H.out.mod hmm.out (by simp)).holds_take i hpl _ (fun h => by cases h)) (by rw [pcells_take]; exact pcells_one _) (by omega) (by omega) ?_; intro b2 c2 w2 hr2 hm2 hf2; simp only [Nat.zero_add] at hr2 hf2; have hW2 := Hidden.mk (hW.out.next (m := l.take i) hr2 hm2 hf2 (by rw [pcells_take]; rfl)); clear hr2 hm2 hf2 hW hmm) | (refine step_any rfl (.tmp 20) (.tmp 24) 86 rfl 92 _ 2 16 (by kernel_rfl) pairs_info rfl (by decide) _ _ _ rfl hW2.out.row _ 0 [] rfl (.inr ⟨_, _, rfl, rfl, fun j u hj => by simp at hj⟩) (by simp) (by omega) (by omega) ?_; intro b4 c4 w4 hr4 hm4 hf4; simp only [Nat.add_zero, List.append_nil] at hr4 hf4; have hW4 := Hidden.mk (hW2.out.next (m := l.take i) hr4 hm4 hf4 rfl); clear hr4 hm4 hf4 hW2))
      all_goals
        go_wp2_with fail
        go_ret
        have hlen : i = (pdrop l k).length := by rw [hput.out, HD.out]; simp; omega
        have hW := hW4.out
        refine ⟨_, rfl, ?_, hW.mod, fun b hb => .inr (hW.ge b hb)⟩
        rw [hput.out]
        have hr := hW.row
        unfold PRow
        rw [hput.out] at hlen
        rw [← hlen, HD.out, List.append_nil]
        exact hr
end Go.Proofs.Ytnbanbfnabhjjaa
