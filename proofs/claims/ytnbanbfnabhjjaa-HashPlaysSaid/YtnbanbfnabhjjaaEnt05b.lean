/- The document's list of entries in memory: Do. -/
import Derived.Test.YtnbanbfnabhjjaaEnt05
namespace Go.Proofs.Ytnbanbfnabhjjaa
open Go.RowKit
set_option linter.unusedVariables false
set_option linter.unusedSimpArgs false
def ecells (l : EL) : List Value := l.flatMap encT
theorem ecells_take (l : EL) (i : Nat) : (ecells l).take (i * 3) = ecells (l.take i) := flat_take _ 3 (fun _ => rfl) l i
theorem ecells_drop (l : EL) (i : Nat) : (ecells l).drop (i * 3) = ecells (l.drop i) := flat_drop _ 3 (fun _ => rfl) l i
theorem ecells_one (l : EL) : ∀ u ∈ ecells l, u.oneCell' = true := by
  intro u hu
  obtain ⟨e, _, hu⟩ := List.mem_flatMap.1 hu
  simp [encT] at hu
  rcases hu with rfl | rfl | rfl <;> rfl
theorem holdsE_mod {w w' : World} {x : Value} {m sz : Nat} {news : List Value} (h : Holds w x m sz news) {S : List Nat} (hm : Mod S w w') (hb : ∀ b ∈ rb x, b ∉ S) : Holds w' x m sz news := by
  rcases h with h | ⟨ad, c, rfl, h1, h2⟩
  · exact .inl h
  · refine .inr ⟨ad, c, rfl, h1, fun j u hj => ?_⟩
    have h3 := h2 j u hj
    have hlt : ad.block < w.heap.size := by
      have := World.block_lt_of_cell? w _ h3
      unfold Addr.add at this; split at this <;> simpa using this
    have hn : ad.block ∉ S := hb ad.block (by simp [rb, Value.ownBlock])
    have e := hm.block ad.block hlt hn
    have hab : (ad.add j).block = ad.block := by unfold Addr.add; split <;> rfl
    rw [← h3]; unfold World.cell?; rw [hab, e]
/-- A row of entries under way: all its blocks are new since w, all else is as it was. -/
structure WayE (w w' : World) (v : Value) (n : Nat) (l : EL) : Prop where
  row : Row w' 149 3 v n (ecells l)
  mod : Mod [] w w'
  ge : ∀ b ∈ rb v, w.heap.size ≤ b
theorem WayE.next {w w' w2 : World} {v v2 : Value} {l m : EL} {n0 n : Nat} {xs : List Value} (h : WayE w w' v n0 l) (hr : Row w2 149 3 v2 n xs) (hm : Mod (rb v) w' w2) (hf : ∀ k ∈ rb v2, k ∈ rb v ∨ w'.heap.size ≤ k) (hx : xs = ecells m) : WayE w w2 v2 n m := by
  subst hx
  refine ⟨hr, h.mod.trans hm (fun x hx => .inr (h.ge x hx)), fun b hb => ?_⟩
  rcases hf b hb with h1 | h1
  · exact h.ge b h1
  · have := h.mod.size; omega
theorem WayE.alloc {w w' : World} {v : Value} {n : Nat} {l : EL} (h : WayE w w' v n l) (o : Obj) : WayE w (w'.alloc o) v n l := ⟨h.row.alloc o, h.mod.alloc o, h.ge⟩
theorem WayE.drew {w w' : World} {v : Value} {n : Nat} {l : EL} (h : WayE w w' v n l) : WayE w w'.drew v n l := ⟨h.row.drew, h.mod.drew, h.ge⟩
theorem WayE.empty {w w' : World} (h : Mod [] w w') : WayE w (w'.alloc (.cells #[] 149)) (.slice (some ⟨w'.heap.size, 0, none⟩) 0 0) 0 [] :=
  ⟨Row.empty_ (Blk.new w' _ _), h.alloc _, fun b hb => by simp [rb, Value.ownBlock] at hb; subst hb; exact h.size⟩
theorem holdsE_new (w : World) (a b c : Value) (t : Nat) : Holds (w.alloc (.cells #[a, b, c] t)) (.slice (some ⟨w.heap.size, 0, none⟩) 1 1) 1 3 [a, b, c] := by
  refine .inr ⟨_, _, rfl, rfl, fun j u hj => ?_⟩
  have hb := Blk.new w t #[a, b, c]
  have hj2 : j < 3 := (List.getElem?_eq_some_iff.1 hj).1
  rw [show (⟨w.heap.size, 0, none⟩ : Addr).add j = ⟨w.heap.size, j, none⟩ from by unfold Addr.add; by_cases h : j = 0 <;> simp [h]]
  refine (hb.cell j).trans ?_
  rcases j with _ | _ | _ | j
  · simpa using hj
  · simpa using hj
  · simpa using hj
  · omega
/-- What Do leaves: the list l', a number, an answer. -/
def DoE (w : World) (v : Value) (l' : EL) (n : Int) (ok : Bool) (e : Ending) (w' : World) : Prop := ∃ v', e = .returned (.tuple #[v', .int .u64 n, .bool ok]) ∧ ERow w' v' l' ∧ Mod [] w w' ∧ ∀ b ∈ rb v', b ∈ rb v ∨ w.heap.size ≤ b
set_option maxRecDepth 100000 in
set_option maxHeartbeats 2000000 in
theorem ref05_get (l : EL) (v : Value) (dd lv px vv : Int) (w : World) (h : ERow w v l) (hl : l.length ≤ 1000) (hr : RiseE l) (hdd : 0 ≤ dd ∧ dd ≤ 255) (hc : dd % 4 = 3) :
    Calls Try.prog 106 #[v, .agg #[.int .u8 dd, .int .u8 lv, .int .u64 px, .int .u64 vv]] w (DoE w v l ((lk l (lv, px)).getD 0) (lk l (lv, px)).isSome) := by
  have hbk := Blk.new w 104 #[.int .u8 dd, .int .u8 lv, .int .u64 px, .int .u64 vv]
  have hm0 := (Mod.refl [] w).alloc (.cells #[.int .u8 dd, .int .u8 lv, .int .u64 px, .int .u64 vv] 104)
  have hfind := ref05_find l v lv px (w.alloc (.cells #[.int .u8 dd, .int .u8 lv, .int .u64 px, .int .u64 vv] 104)) (h.mod hm0 (by simp)) hl
  have hpl := fposE_le l (lv, px)
  have HM0 := Hidden.mk (And.intro hm0 h)
  rw [fisE_lk hr, lk_isE hr]
  cases hp : fisE l (lv, px) with
  | false =>
    rw [hp] at hfind
    obtain ⟨b, cap, rfl, _, _⟩ := h.slice_
    simp only [Bool.false_eq_true, if_false, Option.getD_none]
    clear hp hr hm0 h hpl
    go_enter Try.func106, Try.ntmps106
    go_wp2_with fail
    refine hfind.mono ?_; clear hfind
    rintro e w1 ⟨rfl, hm1⟩
    have b0 : w1.cell? ⟨w.heap.size, 0, none⟩ = some (.int .u8 dd) := (hbk.mod hm1 (by simp)).cell 0
    have b1 : w1.cell? ⟨w.heap.size, 1, none⟩ = some (.int .u8 lv) := (hbk.mod hm1 (by simp)).cell 1
    have b2 : w1.cell? ⟨w.heap.size, 2, none⟩ = some (.int .u64 px) := (hbk.mod hm1 (by simp)).cell 2
    have b3 : w1.cell? ⟨w.heap.size, 3, none⟩ = some (.int .u64 vv) := (hbk.mod hm1 (by simp)).cell 3
    have hbl : w.heap.size < w1.heap.size := by have := hm1.size; simp at this; omega
    have HM := Hidden.mk hm1
    clear hm1 hbk
    go_wp2_with fail
    go_ret3
    exact ⟨_, rfl, HM0.out.2.mod (HM0.out.1.trans HM.out (by simp)) (by simp), HM0.out.1.trans HM.out (by simp), fun b hb => .inl hb⟩
  | true =>
    rw [hp] at hfind
    obtain ⟨x, hx⟩ : ∃ x, l[fposE l (lv, px)]? = some x := by
      unfold fisE at hp
      split at hp
      · exact ⟨_, by assumption⟩
      · cases hp
    obtain ⟨b, cap, rfl, _, _⟩ := h.slice_
    rw [hx]
    simp only [if_true, Option.map_some, Option.getD_some]
    have hil : fposE l (lv, px) < l.length := (List.getElem?_eq_some_iff.1 hx).1
    have HX := Hidden.mk hx
    clear hp hr hm0 h hpl hx
    generalize fposE l (lv, px) = i at *
    obtain ⟨⟨xa, xb⟩, xv⟩ := x
    go_enter Try.func106, Try.ntmps106
    go_wp2_with fail
    refine hfind.mono ?_; clear hfind
    rintro e w1 ⟨rfl, hm1⟩
    have b0 : w1.cell? ⟨w.heap.size, 0, none⟩ = some (.int .u8 dd) := (hbk.mod hm1 (by simp)).cell 0
    have b1 : w1.cell? ⟨w.heap.size, 1, none⟩ = some (.int .u8 lv) := (hbk.mod hm1 (by simp)).cell 1
    have b2 : w1.cell? ⟨w.heap.size, 2, none⟩ = some (.int .u64 px) := (hbk.mod hm1 (by simp)).cell 2
    have b3 : w1.cell? ⟨w.heap.size, 3, none⟩ = some (.int .u64 vv) := (hbk.mod hm1 (by simp)).cell 3
    have hbl : w.heap.size < w1.heap.size := by have := hm1.size; simp at this; omega
    have hh := HM0.out.2.mod (HM0.out.1.trans hm1 (by simp)) (by simp)
    obtain ⟨g, rfl, hg, q1, q2, c0, c1, c2⟩ := ERow.at_ hh HX.out
    simp only at c0 c1 c2
    have HM := Hidden.mk hm1
    clear hm1 hbk hh
    go_wp2_with fail
    go_quiet (fail)
    go_wp2_with fail
    go_ret3
    have hmm := (HM0.out.1.trans HM.out (by simp)).trans ((Mod.refl [] _).drewN nq) (by simp)
    exact ⟨_, rfl, HM0.out.2.mod hmm (by simp), hmm, fun b hb => .inl hb⟩
set_option maxRecDepth 100000 in
set_option maxHeartbeats 4000000 in
theorem ref05_drop (l : EL) (v : Value) (dd lv px vv : Int) (w : World) (h : ERow w v l) (hl : l.length ≤ 1000) (hr : RiseE l) (hdd : 0 ≤ dd ∧ dd ≤ 255) (hc : dd % 4 = 2) :
    Calls Try.prog 106 #[v, .agg #[.int .u8 dd, .int .u8 lv, .int .u64 px, .int .u64 vv]] w (DoE w v (dropL l (lv, px)) 0 (lk l (lv, px)).isSome) := by
  have hbk := Blk.new w 104 #[.int .u8 dd, .int .u8 lv, .int .u64 px, .int .u64 vv]
  have hm0 := (Mod.refl [] w).alloc (.cells #[.int .u8 dd, .int .u8 lv, .int .u64 px, .int .u64 vv] 104)
  have hfind := ref05_find l v lv px (w.alloc (.cells #[.int .u8 dd, .int .u8 lv, .int .u64 px, .int .u64 vv] 104)) (h.mod hm0 (by simp)) hl
  have hpl := fposE_le l (lv, px)
  have HM0 := Hidden.mk (And.intro hm0 h)
  rw [fisE_lk hr]
  obtain ⟨b, cap, rfl, k1, k2⟩ := h.slice_
  cases hp : fisE l (lv, px) with
  | false =>
    rw [hp] at hfind
    rw [dropE_none hr hp]
    clear hp hr hm0 h hpl
    go_enter Try.func106, Try.ntmps106
    go_wp2_with fail
    refine hfind.mono ?_; clear hfind
    rintro e w1 ⟨rfl, hm1⟩
    have b0 : w1.cell? ⟨w.heap.size, 0, none⟩ = some (.int .u8 dd) := (hbk.mod hm1 (by simp)).cell 0
    have b1 : w1.cell? ⟨w.heap.size, 1, none⟩ = some (.int .u8 lv) := (hbk.mod hm1 (by simp)).cell 1
    have b2 : w1.cell? ⟨w.heap.size, 2, none⟩ = some (.int .u64 px) := (hbk.mod hm1 (by simp)).cell 2
    have b3 : w1.cell? ⟨w.heap.size, 3, none⟩ = some (.int .u64 vv) := (hbk.mod hm1 (by simp)).cell 3
    have hbl : w.heap.size < w1.heap.size := by have := hm1.size; simp at this; omega
    have HM := Hidden.mk hm1
    clear hm1 hbk
    go_wp2_with fail
    go_ret3
    exact ⟨_, rfl, HM0.out.2.mod (HM0.out.1.trans HM.out (by simp)) (by simp), HM0.out.1.trans HM.out (by simp), fun b hb => .inl hb⟩
  | true =>
    have hil : fposE l (lv, px) < l.length := by
      unfold fisE at hp; split at hp
      · rename_i x hx; exact (List.getElem?_eq_some_iff.1 hx).1
      · cases hp
    have hput : Hidden (dropL l (lv, px) = l.take (fposE l (lv, px)) ++ l.drop (fposE l (lv, px) + 1)) := ⟨dropE hr hp⟩
    have hlen0 : Hidden ((dropL l (lv, px)).length = fposE l (lv, px) + (l.length - (fposE l (lv, px) + 1))) := ⟨by rw [dropE hr hp]; simp; omega⟩
    obtain ⟨g, rfl⟩ : ∃ g, b = some ⟨g, 0, none⟩ := by
      rcases h.2 with ⟨hv, hn⟩ | ⟨g, cap', cur, hv, _⟩
      · omega
      · injection hv with e1 e2 e3; exact ⟨g, e1⟩
    rw [hp] at hfind
    have H := Hidden.mk (show Row w 149 3 (.slice (some ⟨g, 0, none⟩) l.length cap) l.length (ecells l) from h)
    have hm0' := HM0.out.1
    clear h hp hr hm0 HM0
    generalize hD : dropL l (lv, px) = D at *
    clear hD
    generalize fposE l (lv, px) = i at *
    have hwr : IntKind.i64.wrap ((i : Int) + 1) = (i : Int) + 1 := by rw [IntKind.wrap_i64]; omega
    have hil2 : i + 1 ≤ l.length := by omega
    have hic : i ≤ cap := by omega
    have hia : (0 : Int) ≤ (i : Int) + 1 := by omega
    have hib : (i : Int) + 1 ≤ (l.length : Int) := by omega
    have hid : (i : Int) ≤ (i : Int) + 1 := by omega
    rcases (show i + 1 < cap ∨ cap = i + 1 by omega) with hci | hci
    · have hne : ¬ cap = i + 1 := by omega
      have hle : i + 1 ≤ cap := by omega
      have HO := Hidden.mk hm0'
      go_enter Try.func106, Try.ntmps106
      go_wp2_with fail
      refine hfind.mono ?_; clear hfind
      rintro e w1 ⟨rfl, hm1⟩
      have b0 : w1.cell? ⟨w.heap.size, 0, none⟩ = some (.int .u8 dd) := (hbk.mod hm1 (by simp)).cell 0
      have b1 : w1.cell? ⟨w.heap.size, 1, none⟩ = some (.int .u8 lv) := (hbk.mod hm1 (by simp)).cell 1
      have b2 : w1.cell? ⟨w.heap.size, 2, none⟩ = some (.int .u64 px) := (hbk.mod hm1 (by simp)).cell 2
      have b3 : w1.cell? ⟨w.heap.size, 3, none⟩ = some (.int .u64 vv) := (hbk.mod hm1 (by simp)).cell 3
      have hbl : w.heap.size < w1.heap.size := by have := hm1.size; simp at this; omega
      have hmA := HO.out.trans hm1 (by simp)
      have hW := Hidden.mk (WayE.empty hmA).drew
      have hmm := Hidden.mk (hmA.alloc (.cells #[] 149)).drew
      clear hm1 hbk hmA
      go_wp2_with fail
      go_region_law (first | (refine step_any rfl (.tmp 38) (.tmp 41) 99 rfl 149 (.agg #[.int .u8 0, .int .u64 0, .int .u64 0]) 3 24 (by kernel_rfl) entT_info rfl (by decide) _ _ _ rfl hW.out.row _ _ _ rfl ((H.out.mod hmm.out (by simp)).holds_take i hpl _ (fun h => by cases h)) (by rw [ecells_take]; exact ecells_one _) (by omega) (by omega) ?_; intro b2 c2 w2 hr2 hm2 hf2; simp only [Nat.zero_add] at hr2 hf2; have hW2 := Hidden.mk (hW.out.next (m := l.take i) hr2 hm2 hf2 (by rw [ecells_take]; rfl)); clear hr2 hm2 hf2 hW hmm) | (refine step_any rfl (.tmp 42) (.tmp 46) 99 rfl 149 (.agg #[.int .u8 0, .int .u64 0, .int .u64 0]) 3 24 (by kernel_rfl) entT_info rfl (by decide) _ _ _ rfl hW2.out.row _ _ _ rfl ((H.out.mod hW2.out.mod (by simp)).holds_drop (i + 1) (by omega) _) (by rw [ecells_drop]; exact ecells_one _) (by omega) (by omega) ?_; intro b4 c4 w4 hr4 hm4 hf4; have hW4 := Hidden.mk (hW2.out.next (m := l.take i ++ l.drop (i + 1)) hr4 hm4 hf4 (by rw [ecells_drop]; unfold ecells; rw [List.flatMap_append])); clear hr4 hm4 hf4 hW2))
      all_goals
        go_wp2_with fail
        go_ret3
        have hW := hW4.out
        refine ⟨_, rfl, ?_, hW.mod, fun b hb => .inr (hW.ge b hb)⟩
        have hr := hW.row
        unfold ecells at hr
        show Row _ _ _ _ D.length _
        rw [hlen0.out, hput.out]
        exact hr
    · subst hci
      have HO := Hidden.mk hm0'
      go_enter Try.func106, Try.ntmps106
      go_wp2_with fail
      refine hfind.mono ?_; clear hfind
      rintro e w1 ⟨rfl, hm1⟩
      have b0 : w1.cell? ⟨w.heap.size, 0, none⟩ = some (.int .u8 dd) := (hbk.mod hm1 (by simp)).cell 0
      have b1 : w1.cell? ⟨w.heap.size, 1, none⟩ = some (.int .u8 lv) := (hbk.mod hm1 (by simp)).cell 1
      have b2 : w1.cell? ⟨w.heap.size, 2, none⟩ = some (.int .u64 px) := (hbk.mod hm1 (by simp)).cell 2
      have b3 : w1.cell? ⟨w.heap.size, 3, none⟩ = some (.int .u64 vv) := (hbk.mod hm1 (by simp)).cell 3
      have hbl : w.heap.size < w1.heap.size := by have := hm1.size; simp at this; omega
      have hmA := HO.out.trans hm1 (by simp)
      have hW := Hidden.mk (WayE.empty hmA).drew
      have hmm := Hidden.mk (hmA.alloc (.cells #[] 149)).drew
      clear hm1 hbk hmA
      go_wp2_with fail
      go_region_law (first | (refine step_any rfl (.tmp 38) (.tmp 41) 99 rfl 149 (.agg #[.int .u8 0, .int .u64 0, .int .u64 0]) 3 24 (by kernel_rfl) entT_info rfl (by decide) _ _ _ rfl hW.out.row _ _ _ rfl ((H.out.mod hmm.out (by simp)).holds_take i hpl _ (fun h => by cases h)) (by rw [ecells_take]; exact ecells_one _) (by omega) (by omega) ?_; intro b2 c2 w2 hr2 hm2 hf2; simp only [Nat.zero_add] at hr2 hf2; have hW2 := Hidden.mk (hW.out.next (m := l.take i) hr2 hm2 hf2 (by rw [ecells_take]; rfl)); clear hr2 hm2 hf2 hW hmm) | (refine step_any rfl (.tmp 42) (.tmp 46) 99 rfl 149 (.agg #[.int .u8 0, .int .u64 0, .int .u64 0]) 3 24 (by kernel_rfl) entT_info rfl (by decide) _ _ _ rfl hW2.out.row _ 0 [] rfl (.inr ⟨_, _, rfl, rfl, fun j u hj => by simp at hj⟩) (by simp) (by omega) (by omega) ?_; intro b4 c4 w4 hr4 hm4 hf4; simp only [Nat.add_zero, List.append_nil] at hr4 hf4; have hW4 := Hidden.mk (hW2.out.next (m := l.take i) hr4 hm4 hf4 rfl); clear hr4 hm4 hf4 hW2))
      all_goals
        go_wp2_with fail
        go_ret3
        have hW := hW4.out
        refine ⟨_, rfl, ?_, hW.mod, fun b hb => .inr (hW.ge b hb)⟩
        have hr := hW.row
        unfold ecells at hr
        show Row _ _ _ _ D.length _
        have hl0 : l.length - (i + 1) = 0 := by omega
        have hdr : l.drop (i + 1) = [] := by rw [List.drop_eq_nil_iff]; omega
        rw [hlen0.out, hput.out, hl0, hdr, List.append_nil, Nat.add_zero]
        exact hr
end Go.Proofs.Ytnbanbfnabhjjaa
