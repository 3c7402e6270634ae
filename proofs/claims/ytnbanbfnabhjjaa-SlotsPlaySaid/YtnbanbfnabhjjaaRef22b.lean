/- The document's pairs in memory: Put. -/
import Derived.Test.YtnbanbfnabhjjaaRef22
import Derived.Test.YtnbanbfnabhjjaaApp
namespace Go.Proofs.Ytnbanbfnabhjjaa
open Go.RowKit
set_option linter.unusedVariables false
set_option linter.unusedSimpArgs false
theorem pairs_info : (Try.prog.info? 92).map (fun i => (i.zero, i.size, i.bytes)) = some (some (.agg #[.int .u64 0, .int .u64 0]), 2, 16) := by kernel_rfl
theorem pcells_len (l : PL) : (pcells l).length = l.length * 2 := flat_len _ 2 (fun _ => rfl) l
theorem pcells_take (l : PL) (i : Nat) : (pcells l).take (i * 2) = pcells (l.take i) := flat_take _ 2 (fun _ => rfl) l i
theorem pcells_drop (l : PL) (i : Nat) : (pcells l).drop (i * 2) = pcells (l.drop i) := flat_drop _ 2 (fun _ => rfl) l i
theorem pcells_one (l : PL) : ∀ u ∈ pcells l, u.oneCell' = true := by
  intro u hu
  unfold pcells at hu
  obtain ⟨e, _, he⟩ := List.mem_flatMap.1 hu
  rcases List.mem_cons.1 he with rfl | he
  · rfl
  · rcases List.mem_cons.1 he with rfl | he
    · rfl
    · cases he
theorem Holds.mod {w w' : World} {x : Value} {m sz : Nat} {news : List Value} (h : Holds w x m sz news) {S : List Nat} (hm : Mod S w w') (hb : ∀ b ∈ rb x, b ∉ S) : Holds w' x m sz news := by
  rcases h with h | ⟨ad, c, rfl, h1, h2⟩
  · exact .inl h
  · refine .inr ⟨ad, c, rfl, h1, fun j u hj => ?_⟩
    have h3 := h2 j u hj
    have hlt : ad.block < w.heap.size := by
      have := World.block_lt_of_cell? w _ h3
      unfold Addr.add at this; split at this <;> simpa using this
    have hn : ad.block ∉ S := hb ad.block (by simp [rb, Value.ownBlock])
    have e := hm.block ad.block hlt hn
    have hab : (ad.add j).block = ad.block := by unfold Addr.add; split <;> rfl
    rw [← h3]; unfold World.cell?; rw [hab, e]
/-- A row under way: all its blocks are new since w, all else is as it was. -/
structure Way (w w' : World) (v : Value) (n : Nat) (l : PL) : Prop where
  row : Row w' 92 2 v n (pcells l)
  mod : Mod [] w w'
  ge : ∀ b ∈ rb v, w.heap.size ≤ b
theorem Way.next {w w' w2 : World} {v v2 : Value} {l m : PL} {n0 n : Nat} {xs : List Value} (h : Way w w' v n0 l) (hr : Row w2 92 2 v2 n xs) (hm : Mod (rb v) w' w2) (hf : ∀ k ∈ rb v2, k ∈ rb v ∨ w'.heap.size ≤ k) (hx : xs = pcells m) : Way w w2 v2 n m := by
  subst hx
  refine ⟨hr, h.mod.trans hm (fun x hx => .inr (h.ge x hx)), fun b hb => ?_⟩
  rcases hf b hb with h1 | h1
  · exact h.ge b h1
  · have := h.mod.size; omega
theorem Way.alloc {w w' : World} {v : Value} {n : Nat} {l : PL} (h : Way w w' v n l) (o : Obj) : Way w (w'.alloc o) v n l := ⟨h.row.alloc o, h.mod.alloc o, h.ge⟩
theorem Way.empty {w w' : World} (h : Mod [] w w') : Way w (w'.alloc (.cells #[] 92)) (.slice (some ⟨w'.heap.size, 0, none⟩) 0 0) 0 [] :=
  ⟨Row.empty_ (Blk.new w' _ _), h.alloc _, fun b hb => by simp [rb, Value.ownBlock] at hb; subst hb; exact h.size⟩
theorem holds_new (w : World) (a b : Value) (t : Nat) : Holds (w.alloc (.cells #[a, b] t)) (.slice (some ⟨w.heap.size, 0, none⟩) 1 1) 1 2 [a, b] := by
  refine .inr ⟨_, _, rfl, rfl, fun j u hj => ?_⟩
  have hb := Blk.new w t #[a, b]
  have hj2 : j < 2 := (List.getElem?_eq_some_iff.1 hj).1
  rw [show (⟨w.heap.size, 0, none⟩ : Addr).add j = ⟨w.heap.size, j, none⟩ from by unfold Addr.add; by_cases h : j = 0 <;> simp [h]]
  refine (hb.cell j).trans ?_
  rcases j with _ | _ | j
  · simpa using hj
  · simpa using hj
  · omega
set_option maxRecDepth 100000 in
set_option maxHeartbeats 1000000 in
theorem ref22_put (l : PL) (k x : Int) (v : Value) (w : World) (h : PRow w v l) (hl : l.length ≤ 1000) :
    Calls Try.prog 66 #[v, .int .u64 k, .int .u64 x] w fun e w' => ∃ v', e = .returned v' ∧ PRow w' v' (pput l k x) ∧ Mod [] w w' ∧ ∀ b ∈ rb v', w.heap.size ≤ b := by
  have hpl := pfind_le l k
  have hpl2 := pput_length l k x
  have hfind := ref22_find l k v w h
  have H := Hidden.mk h
  obtain ⟨a, cap, rfl, k1, k2⟩ := h.slice_
  cases a with
  | none =>
    have hl0 : l = [] := by
      rcases h.2 with ⟨_, hn⟩ | ⟨g, cap', cur, hv, _⟩
      · exact List.length_eq_zero_iff.1 hn
      · cases hv
    subst hl0
    have hc0 : cap = 0 := by
      rcases h.2 with ⟨hv, hn⟩ | ⟨g, cap', cur, hv, _⟩
      · injection hv with e1 e2 e3
      · cases hv
    subst hc0
    clear h
    have e1 : pfind [] k = 0 := rfl
    have e2 : pis [] k = false := by simp [pis, pfind]
    have e3 : pput [] k x = [(k, x)] := rfl
    rw [e1, e2] at hfind
    rw [e3]
    clear e1 e2 e3 hpl hpl2 k1 k2 hl
    go_enter Try.func66, Try.ntmps66
    go_wp2_with fail
    refine hfind.mono ?_
    rintro e w1 ⟨rfl, hm1⟩
    have hW := Hidden.mk (Way.empty hm1)
    clear hm1 hfind
    go_wp2_with (first | (refine wpList_any rfl (.tmp 16) (.tmp 19) 86 rfl 92 _ 2 16 (by kernel_rfl) pairs_info rfl (by decide) _ _ _ rfl hW.out.row _ 0 [] rfl (.inl ⟨rfl, rfl, rfl⟩) (by simp) (by omega) (by omega) ?_; intro b2 c2 w2 hr2 hm2 hf2; simp only [Nat.zero_add, Nat.add_zero] at hr2 hf2; have hW2 := Hidden.mk (hW.out.next (m := []) hr2 hm2 hf2 rfl); clear hr2 hm2 hf2 hW) | (refine wpList_any rfl (.tmp 21) (.tmp 25) 86 rfl 92 _ 2 16 (by kernel_rfl) pairs_info rfl (by decide) _ _ _ rfl (hW2.out.alloc (.cells #[.int .u64 k, .int .u64 x] 92)).row _ _ _ rfl (holds_new w2 _ _ _) (pcells_one [(k, x)]) (by omega) (by omega) ?_; intro b3 c3 w3 hr3 hm3 hf3; simp only [Nat.zero_add] at hr3 hf3; have hW3 := Hidden.mk ((hW2.out.alloc (.cells #[.int .u64 k, .int .u64 x] 92)).next (m := [(k, x)]) hr3 hm3 hf3 rfl); clear hr3 hm3 hf3 hW2) | (refine wpList_any rfl (.tmp 30) (.tmp 33) 86 rfl 92 _ 2 16 (by kernel_rfl) pairs_info rfl (by decide) _ _ _ rfl hW3.out.row _ 0 [] rfl (.inl ⟨rfl, rfl, rfl⟩) (by simp) (by omega) (by omega) ?_; intro b4 c4 w4 hr4 hm4 hf4; simp only [Nat.add_zero] at hr4 hf4; have hW4 := Hidden.mk (hW3.out.next (m := [(k, x)]) hr4 hm4 hf4 rfl); clear hr4 hm4 hf4 hW3))
    go_ret
    have hW := hW4.out
    exact ⟨_, rfl, hW.row, hW.mod, hW.ge⟩
  | some ad =>
    obtain ⟨g, rfl⟩ : ∃ g, ad = ⟨g, 0, none⟩ := by
      rcases h.2 with ⟨hv, _⟩ | ⟨g, cap', cur, hv, _⟩
      · cases hv
      · injection hv with e1 e2 e3; injection e1 with e1; exact ⟨g, e1⟩
    clear h
    cases hp : pis l k with
    | false =>
      rw [hp] at hfind
      have hput : Hidden (pput l k x = l.take (pfind l k) ++ [(k, x)] ++ l.drop (pfind l k)) := ⟨by unfold pput; rw [hp]; simp⟩
      clear hpl2 hp
      generalize pfind l k = i at *
      rcases Nat.lt_or_ge i cap with hci | hci
      all_goals
        go_enter Try.func66, Try.ntmps66
        go_wp2_with fail
        refine hfind.mono ?_
        rintro e w1 ⟨rfl, hm1⟩
        have hW := Hidden.mk (Way.empty hm1)
        have hmm := Hidden.mk (hm1.alloc (.cells #[] 92))
        clear hm1 hfind
        go_wp2_with (first | (refine wpList_any rfl (.tmp 16) (.tmp 19) 86 rfl 92 _ 2 16 (by kernel_rfl) pairs_info rfl (by decide) _ _ _ rfl hW.out.row _ _ _ rfl ((H.out.mod hmm.out (by simp)).holds_take i hpl _ (fun h => by cases h)) (by rw [pcells_take]; exact pcells_one _) (by omega) (by omega) ?_; intro b2 c2 w2 hr2 hm2 hf2; simp only [Nat.zero_add] at hr2 hf2; have hW2 := Hidden.mk (hW.out.next (m := l.take i) hr2 hm2 hf2 (by rw [pcells_take]; rfl)); clear hr2 hm2 hf2 hW hmm) | (refine wpList_any rfl (.tmp 21) (.tmp 25) 86 rfl 92 _ 2 16 (by kernel_rfl) pairs_info rfl (by decide) _ _ _ rfl (hW2.out.alloc (.cells #[.int .u64 k, .int .u64 x] 92)).row _ _ _ rfl (holds_new w2 _ _ _) (pcells_one [(k, x)]) (by omega) (by omega) ?_; intro b3 c3 w3 hr3 hm3 hf3; have hW3 := Hidden.mk ((hW2.out.alloc (.cells #[.int .u64 k, .int .u64 x] 92)).next (m := l.take i ++ [(k, x)]) hr3 hm3 hf3 (by unfold pcells; rw [List.flatMap_append]; rfl)); clear hr3 hm3 hf3 hW2) | (refine wpList_any rfl (.tmp 30) (.tmp 33) 86 rfl 92 _ 2 16 (by kernel_rfl) pairs_info rfl (by decide) _ _ _ rfl hW3.out.row _ _ _ rfl (by first | exact (H.out.mod hW3.out.mod (by simp)).holds_drop (i) (by omega) _ | exact (H.out.mod hW3.out.mod (by simp)).holds_drop0 (i) (by omega) _) (by rw [pcells_drop]; exact pcells_one _) (by omega) (by omega) ?_; intro b4 c4 w4 hr4 hm4 hf4; have hW4 := Hidden.mk (hW3.out.next (m := l.take i ++ [(k, x)] ++ l.drop (i)) hr4 hm4 hf4 (by rw [pcells_drop]; unfold pcells; simp only [List.flatMap_append])); clear hr4 hm4 hf4 hW3))
        go_ret
        have hlen : i + 1 + (l.length - i) = (pput l k x).length := by rw [hput.out]; simp; omega
        have hW := hW4.out
        refine ⟨_, rfl, ?_, hW.mod, hW.ge⟩
        rw [hput.out]
        have hr := hW.row
        unfold PRow
        rw [hput.out] at hlen
        rw [← hlen]
        exact hr
    | true =>
      rw [hp] at hfind
      have hput : Hidden (pput l k x = l.take (pfind l k) ++ [(k, x)] ++ l.drop (pfind l k + 1)) := ⟨by unfold pput; rw [hp]; simp⟩
      have hil : pfind l k < l.length := by
        obtain ⟨v, h1, _⟩ := pget_eq k hp
        exact (List.getElem?_eq_some_iff.1 h1).1
      clear hpl2 hp
      generalize pfind l k = i at *
      rcases (show i + 1 < cap ∨ cap = i + 1 by omega) with hci | rfl
      · skip
        go_enter Try.func66, Try.ntmps66
        go_wp2_with fail
        refine hfind.mono ?_
        rintro e w1 ⟨rfl, hm1⟩
        have hW := Hidden.mk (Way.empty hm1)
        have hmm := Hidden.mk (hm1.alloc (.cells #[] 92))
        clear hm1 hfind
        go_wp2_with (first | (refine wpList_any rfl (.tmp 16) (.tmp 19) 86 rfl 92 _ 2 16 (by kernel_rfl) pairs_info rfl (by decide) _ _ _ rfl hW.out.row _ _ _ rfl ((H.out.mod hmm.out (by simp)).holds_take i hpl _ (fun h => by cases h)) (by rw [pcells_take]; exact pcells_one _) (by omega) (by omega) ?_; intro b2 c2 w2 hr2 hm2 hf2; simp only [Nat.zero_add] at hr2 hf2; have hW2 := Hidden.mk (hW.out.next (m := l.take i) hr2 hm2 hf2 (by rw [pcells_take]; rfl)); clear hr2 hm2 hf2 hW hmm) | (refine wpList_any rfl (.tmp 21) (.tmp 25) 86 rfl 92 _ 2 16 (by kernel_rfl) pairs_info rfl (by decide) _ _ _ rfl (hW2.out.alloc (.cells #[.int .u64 k, .int .u64 x] 92)).row _ _ _ rfl (holds_new w2 _ _ _) (pcells_one [(k, x)]) (by omega) (by omega) ?_; intro b3 c3 w3 hr3 hm3 hf3; have hW3 := Hidden.mk ((hW2.out.alloc (.cells #[.int .u64 k, .int .u64 x] 92)).next (m := l.take i ++ [(k, x)]) hr3 hm3 hf3 (by unfold pcells; rw [List.flatMap_append]; rfl)); clear hr3 hm3 hf3 hW2) | (refine wpList_any rfl (.tmp 30) (.tmp 33) 86 rfl 92 _ 2 16 (by kernel_rfl) pairs_info rfl (by decide) _ _ _ rfl hW3.out.row _ _ _ rfl (by first | exact (H.out.mod hW3.out.mod (by simp)).holds_drop (i + 1) (by omega) _ | exact (H.out.mod hW3.out.mod (by simp)).holds_drop0 (i + 1) (by omega) _) (by rw [pcells_drop]; exact pcells_one _) (by omega) (by omega) ?_; intro b4 c4 w4 hr4 hm4 hf4; have hW4 := Hidden.mk (hW3.out.next (m := l.take i ++ [(k, x)] ++ l.drop (i + 1)) hr4 hm4 hf4 (by rw [pcells_drop]; unfold pcells; simp only [List.flatMap_append])); clear hr4 hm4 hf4 hW3))
        go_ret
        have hlen : i + 1 + (l.length - (i + 1)) = (pput l k x).length := by rw [hput.out]; simp; omega
        have hW := hW4.out
        refine ⟨_, rfl, ?_, hW.mod, hW.ge⟩
        rw [hput.out]
        have hr := hW.row
        unfold PRow
        rw [hput.out] at hlen
        rw [← hlen]
        exact hr
      · skip
        go_enter Try.func66, Try.ntmps66
        go_wp2_with fail
        refine hfind.mono ?_
        rintro e w1 ⟨rfl, hm1⟩
        have hW := Hidden.mk (Way.empty hm1)
        have hmm := Hidden.mk (hm1.alloc (.cells #[] 92))
        clear hm1 hfind
        go_wp2_with (first | (refine wpList_any rfl (.tmp 16) (.tmp 19) 86 rfl 92 _ 2 16 (by kernel_rfl) pairs_info rfl (by decide) _ _ _ rfl hW.out.row _ _ _ rfl ((H.out.mod hmm.out (by simp)).holds_take i hpl _ (fun h => by cases h)) (by rw [pcells_take]; exact pcells_one _) (by omega) (by omega) ?_; intro b2 c2 w2 hr2 hm2 hf2; simp only [Nat.zero_add] at hr2 hf2; have hW2 := Hidden.mk (hW.out.next (m := l.take i) hr2 hm2 hf2 (by rw [pcells_take]; rfl)); clear hr2 hm2 hf2 hW hmm) | (refine wpList_any rfl (.tmp 21) (.tmp 25) 86 rfl 92 _ 2 16 (by kernel_rfl) pairs_info rfl (by decide) _ _ _ rfl (hW2.out.alloc (.cells #[.int .u64 k, .int .u64 x] 92)).row _ _ _ rfl (holds_new w2 _ _ _) (pcells_one [(k, x)]) (by omega) (by omega) ?_; intro b3 c3 w3 hr3 hm3 hf3; have hW3 := Hidden.mk ((hW2.out.alloc (.cells #[.int .u64 k, .int .u64 x] 92)).next (m := l.take i ++ [(k, x)]) hr3 hm3 hf3 (by unfold pcells; rw [List.flatMap_append]; rfl)); clear hr3 hm3 hf3 hW2) | (refine wpList_any rfl (.tmp 30) (.tmp 33) 86 rfl 92 _ 2 16 (by kernel_rfl) pairs_info rfl (by decide) _ _ _ rfl hW3.out.row _ 0 [] rfl (.inr ⟨_, _, rfl, rfl, fun j u hj => by simp at hj⟩) (by simp) (by omega) (by omega) ?_; intro b4 c4 w4 hr4 hm4 hf4; simp only [Nat.add_zero, List.append_nil] at hr4 hf4; have hW4 := Hidden.mk (hW3.out.next (m := l.take i ++ [(k, x)]) hr4 hm4 hf4 rfl); clear hr4 hm4 hf4 hW3))
        go_ret
        have hdr : l.drop (i + 1) = [] := by rw [List.drop_eq_nil_iff]; omega
        have hlen : i + 1 = (pput l k x).length := by rw [hput.out, hdr]; simp; omega
        have hW := hW4.out
        refine ⟨_, rfl, ?_, hW.mod, hW.ge⟩
        rw [hput.out]
        have hr := hW.row
        unfold PRow
        rw [hput.out] at hlen
        rw [← hlen, hdr, List.append_nil]
        exact hr
end Go.Proofs.Ytnbanbfnabhjjaa
