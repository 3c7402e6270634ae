/- merge, Or, And, Less, Xor (rising lists of uint16). -/
import Derived.Test.YthcjnijggebcaaaArrA
import Derived.Test.YthcjnijggebcaaaPart
import Derived.Deep.DeepCutAuto
import Derived.Deep.CutBlock
namespace Go.Proofs.Ythcjnijggebcaaa
open Go.RowKit
set_option linter.unusedVariables false
set_option linter.unusedSimpArgs false

/-- Where the ways through the switch meet. -/
def MgCut16 (w0 wx : World) (out : Value) (acc : List Int) (x y : List Int) (va vb vk vv : Value) : Prop :=
  ∃ (k : Nat) (v : Int) (x' y' : List Int), mst x y = some (k, v, x', y') ∧ vk = .int .i64 k ∧ vv = .int .u16 v ∧ ISl .u16 w0 va x' ∧ ISl .u16 w0 vb y' ∧ WayI .u16 24 w0 wx out acc.length acc
set_option maxHeartbeats 4000000 in
set_option maxRecDepth 100000 in
theorem merge16 {w : World} {va vb : Value} {a b : List Int} (S : Int) (f : Nat → Bool) (ha : ISl .u16 w va a) (hb : ISl .u16 w vb b) (hla : a.length ≤ 100000) (hlb : b.length ≤ 100000)
    (f1 : (bits .and .i64 S 1 != 0) = f 1) (f2 : (bits .and .i64 S 2 != 0) = f 2) (f4 : (bits .and .i64 S 4 != 0) = f 4) :
    Calls Try.prog 88 #[va, vb, .int .i64 S] w (RowOnly .u16 24 w (mg f a b)) := by
  have ha0 := Hidden.mk ha
  have hb0 := Hidden.mk hb
  obtain ⟨aa, ca, rfl, _⟩ := ha.slice_
  obtain ⟨ab, cb, rfl, _⟩ := hb.slice_
  have F := Hidden.mk (And.intro f1 (And.intro f2 f4))
  have hlen : Hidden ((mg f a b).length ≤ 200000) := ⟨by have := mg_len f _ a b (Nat.le_refl _); omega⟩
  clear ha hb f1 f2 f4
  go_enter Try.func88, Try.ntmps88
  go_wp2_with fail
  go_loopw [0, 1, 7, 8, 9] (fun ua ub uo _ _ wr => ∃ (x y acc : List Int), ISl .u16 w ua x ∧ ISl .u16 w ub y ∧ WayI .u16 24 w wr uo acc.length acc ∧ acc ++ mg f x y = mg f a b) (fun ua ub _ _ _ _ => slen ua + slen ub)
  case atStart => exact ⟨a, b, [], ha0.out, hb0.out, WayI.nil_ (Mod.refl [] w), rfl⟩
  case round =>
    obtain ⟨x, y, acc, hx, hy, hW, hE⟩ := hrel
    have HE := Hidden.mk hE
    have hacc : acc.length + (mg f x y).length ≤ 200000 := by have := hlen.out; rw [← hE, List.length_append] at this; exact this
    have HACC := Hidden.mk hacc
    clear hE hacc
    cases hm : mst x y with
    | none =>
      have hx0 : x = [] ∧ y = [] := by
        match x, y with
        | [], [] => exact ⟨rfl, rfl⟩
        | u :: x, [] => simp [mst] at hm
        | [], z :: y => simp [mst] at hm
        | u :: x, z :: y => simp only [mst] at hm; split at hm; cases hm; split at hm <;> cases hm
      obtain ⟨rfl, rfl⟩ := hx0
      obtain ⟨p, cp, rfl, _⟩ := hx.none_
      obtain ⟨q, cq, rfl, _⟩ := hy.none_
      have HW := Hidden.mk hW
      clear hx hy hW hm
      go_wp2_with fail
      go_ret
      refine ⟨_, rfl, ?_⟩
      have e : acc = mg f a b := by rw [← HE.out, mg_none rfl, List.append_nil]
      rw [← e]; exact HW.out
    | some pr =>
      rcases x with _ | ⟨x0, x⟩
      · rcases y with _ | ⟨y0, y⟩
        · exact absurd hm (by simp [mst])
        · obtain ⟨p, cp, rfl, _⟩ := hx.none_
          obtain ⟨q, qo, cq, rfl, hq1, hq2, hqc, hqt⟩ := hy.cons
          have hqc0 : wr.cell? ⟨q, qo, none⟩ = some (.int .u16 y0) := (Below.cell (p := ⟨q, qo, none⟩) hW.mod.below' (by simpa using World.block_lt_of_cell? w _ hqc)).trans hqc
          have hb0 : ((y.length : Int) + 1 == 0) = false := by simp; omega
          have hq1z : (1 : Int) ≤ (cq : Int) := by omega
          have HQT := Hidden.mk hqt
          have HX : Hidden (ISl .u16 w (.slice p 0 cp) []) := ⟨hx⟩
          clear hx hy hqc hqt hm
          have HW := Hidden.mk hW
          clear hW
          go_upto_block 2 with fail
          go_cut [0, 1, 8, 9] from 10 to 65 (fun ua ub uk uv wx => MgCut16 w wx u7 acc ([]) (y0 :: y) ua ub uk uv)
          case first =>
            go_wp2_with fail
            go_quiet (fail)
            go_wp2_with fail
            go_quiet (fail)
            go_wp2_with fail
            go_quiet (fail)
            go_wp2_with fail
            all_goals
              go_meet
              exact ⟨_, _, _, _, mst_r y0 y, rfl, rfl, HX.out, (by rcases Nat.eq_or_lt_of_le (show 1 ≤ cq by omega) with hh | hh; (have h := HQT.out; rw [if_pos hh.symm, show cq - 1 = 0 by omega] at h; first | exact h | (exfalso; omega)); (have h := HQT.out; rw [if_neg (by omega)] at h; first | exact h | (exfalso; omega))), (by repeat (first | (with_reducible refine WayI.drew ?_) | (with_reducible refine WayI.drewN ?_ _)); exact HW.out)⟩
          case rest =>
            obtain ⟨k, v, x2, y2, hm, rfl, rfl, hx2, hy2, hW2⟩ := hcut
            have hless := mst_less hm
            have HM := Hidden.mk hm
            have HX2 := Hidden.mk hx2
            have HY2 := Hidden.mk hy2
            have HW2 := Hidden.mk hW2
            have hk : k = 1 ∨ k = 2 ∨ k = 4 := mst_kind hm
            have hf : (bits .and .i64 S (k : Int) != 0) = f k := by
              rcases hk with rfl | rfl | rfl
              · exact F.out.1
              · exact F.out.2.1
              · exact F.out.2.2
            obtain ⟨p2, cp2, rfl, _⟩ := hx2.slice_
            obtain ⟨q2, cq2, rfl, _⟩ := hy2.slice_
            clear hm hx2 hy2 hW2 hk
            cases hfk : f k with
            | true =>
              have hlt : acc.length + 1 ≤ 200001 := by have := HACC.out; omega
              have hE2 := Hidden.mk (show (acc ++ [v]) ++ mg f x2 y2 = mg f a b from by rw [← HE.out, mg_take HM.out hfk]; simp)
              have hl2 := Hidden.mk (show acc.length + 1 = (acc ++ [v]).length from by simp)
              have hd := Hidden.mk (icells_snoc .u16 acc v)
              have hw2 := Hidden.mk (HW2.out.alloc (.cells #[.int .u16 v] 24))
              have hn1 := Hidden.mk (holds_one wc (.int .u16 v) 24 rfl)
              rw [hfk] at hf
              clear hfk
              go_wp2_with (refine wpList_any rfl (.tmp 70) (.tmp 72) 22 rfl 24 (.int .u16 0) 1 2 (by kernel_rfl) info16 rfl (by decide) _ _ _ rfl hw2.out.row _ _ _ rfl hn1.out (by simp [Value.oneCell']) (by omega) (by omega) ?_; intro b4 c4 w4 hr4 hm4 hf4; have hW4 := Hidden.mk (hw2.out.next hr4 hm4 hf4 hd.out); clear hr4 hm4 hf4 hw2)
              go_roundw
              case rel => exact ⟨x2, y2, acc ++ [v], HX2.out, HY2.out, by rw [← hl2.out]; exact hW4.out, hE2.out⟩
              case measure => simp only [slen_slice]; have := hless; simp only [List.length_cons, List.length_nil] at this; omega
            | false =>
              have hE2 := Hidden.mk (show acc ++ mg f x2 y2 = mg f a b from by rw [← HE.out, mg_skip HM.out hfk])
              rw [hfk] at hf
              clear hfk
              go_wp2_with fail
              go_roundw
              case rel => exact ⟨x2, y2, acc, HX2.out, HY2.out, HW2.out, hE2.out⟩
              case measure => simp only [slen_slice]; have := hless; simp only [List.length_cons, List.length_nil] at this; omega
      · obtain ⟨p, po, cp, rfl, hp1, hp2, hpc, hpt⟩ := hx.cons
        have hpc0 : wr.cell? ⟨p, po, none⟩ = some (.int .u16 x0) := (Below.cell (p := ⟨p, po, none⟩) hW.mod.below' (by simpa using World.block_lt_of_cell? w _ hpc)).trans hpc
        have ha0' : ((x.length : Int) + 1 == 0) = false := by simp; omega
        have hp1z : (1 : Int) ≤ (cp : Int) := by omega
        have HPT := Hidden.mk hpt
        have HX : Hidden (ISl .u16 w (.slice (some ⟨p, po, none⟩) (x.length + 1) cp) (x0 :: x)) := ⟨hx⟩
        clear hx hpc hpt
        rcases y with _ | ⟨y0, y⟩
        · obtain ⟨q, cq, rfl, _⟩ := hy.none_
          have HY : Hidden (ISl .u16 w (.slice q 0 cq) []) := ⟨hy⟩
          clear hy hm
          have HW := Hidden.mk hW
          clear hW
          go_upto_block 2 with fail
          go_cut [0, 1, 8, 9] from 10 to 65 (fun ua ub uk uv wx => MgCut16 w wx u7 acc (x0 :: x) ([]) ua ub uk uv)
          case first =>
            go_wp2_with fail
            go_quiet (fail)
            go_wp2_with fail
            go_quiet (fail)
            go_wp2_with fail
            all_goals
              go_meet
              exact ⟨_, _, _, _, mst_l x0 x, rfl, rfl, (by rcases Nat.eq_or_lt_of_le (show 1 ≤ cp by omega) with hh | hh; (have h := HPT.out; rw [if_pos hh.symm, show cp - 1 = 0 by omega] at h; first | exact h | (exfalso; omega)); (have h := HPT.out; rw [if_neg (by omega)] at h; first | exact h | (exfalso; omega))), HY.out, (by repeat (first | (with_reducible refine WayI.drew ?_) | (with_reducible refine WayI.drewN ?_ _)); exact HW.out)⟩
          case rest =>
            obtain ⟨k, v, x2, y2, hm, rfl, rfl, hx2, hy2, hW2⟩ := hcut
            have hless := mst_less hm
            have HM := Hidden.mk hm
            have HX2 := Hidden.mk hx2
            have HY2 := Hidden.mk hy2
            have HW2 := Hidden.mk hW2
            have hk : k = 1 ∨ k = 2 ∨ k = 4 := mst_kind hm
            have hf : (bits .and .i64 S (k : Int) != 0) = f k := by
              rcases hk with rfl | rfl | rfl
              · exact F.out.1
              · exact F.out.2.1
              · exact F.out.2.2
            obtain ⟨p2, cp2, rfl, _⟩ := hx2.slice_
            obtain ⟨q2, cq2, rfl, _⟩ := hy2.slice_
            clear hm hx2 hy2 hW2 hk
            cases hfk : f k with
            | true =>
              have hlt : acc.length + 1 ≤ 200001 := by have := HACC.out; omega
              have hE2 := Hidden.mk (show (acc ++ [v]) ++ mg f x2 y2 = mg f a b from by rw [← HE.out, mg_take HM.out hfk]; simp)
              have hl2 := Hidden.mk (show acc.length + 1 = (acc ++ [v]).length from by simp)
              have hd := Hidden.mk (icells_snoc .u16 acc v)
              have hw2 := Hidden.mk (HW2.out.alloc (.cells #[.int .u16 v] 24))
              have hn1 := Hidden.mk (holds_one wc (.int .u16 v) 24 rfl)
              rw [hfk] at hf
              clear hfk
              go_wp2_with (refine wpList_any rfl (.tmp 70) (.tmp 72) 22 rfl 24 (.int .u16 0) 1 2 (by kernel_rfl) info16 rfl (by decide) _ _ _ rfl hw2.out.row _ _ _ rfl hn1.out (by simp [Value.oneCell']) (by omega) (by omega) ?_; intro b4 c4 w4 hr4 hm4 hf4; have hW4 := Hidden.mk (hw2.out.next hr4 hm4 hf4 hd.out); clear hr4 hm4 hf4 hw2)
              go_roundw
              case rel => exact ⟨x2, y2, acc ++ [v], HX2.out, HY2.out, by rw [← hl2.out]; exact hW4.out, hE2.out⟩
              case measure => simp only [slen_slice]; have := hless; simp only [List.length_cons, List.length_nil] at this; omega
            | false =>
              have hE2 := Hidden.mk (show acc ++ mg f x2 y2 = mg f a b from by rw [← HE.out, mg_skip HM.out hfk])
              rw [hfk] at hf
              clear hfk
              go_wp2_with fail
              go_roundw
              case rel => exact ⟨x2, y2, acc, HX2.out, HY2.out, HW2.out, hE2.out⟩
              case measure => simp only [slen_slice]; have := hless; simp only [List.length_cons, List.length_nil] at this; omega
        · obtain ⟨q, qo, cq, rfl, hq1, hq2, hqc, hqt⟩ := hy.cons
          have hqc0 : wr.cell? ⟨q, qo, none⟩ = some (.int .u16 y0) := (Below.cell (p := ⟨q, qo, none⟩) hW.mod.below' (by simpa using World.block_lt_of_cell? w _ hqc)).trans hqc
          have hb0' : ((y.length : Int) + 1 == 0) = false := by simp; omega
          have hq1z : (1 : Int) ≤ (cq : Int) := by omega
          have HQT := Hidden.mk hqt
          have HY : Hidden (ISl .u16 w (.slice (some ⟨q, qo, none⟩) (y.length + 1) cq) (y0 :: y)) := ⟨hy⟩
          clear hy hqc hqt hm
          have HW := Hidden.mk hW
          clear hW
          go_upto_block 2 with fail
          go_cut [0, 1, 8, 9] from 10 to 65 (fun ua ub uk uv wx => MgCut16 w wx u7 acc (x0 :: x) (y0 :: y) ua ub uk uv)
          case first =>
            by_cases h1 : x0 < y0
            · go_wp2_with fail
              go_quiet (fail)
              go_wp2_with fail
              go_quiet (fail)
              go_wp2_with fail
              all_goals
                go_meet
                exact ⟨_, _, _, _, mst_1 x y (by omega), rfl, rfl, (by rcases Nat.eq_or_lt_of_le (show 1 ≤ cp by omega) with hh | hh; (have h := HPT.out; rw [if_pos hh.symm, show cp - 1 = 0 by omega] at h; first | exact h | (exfalso; omega)); (have h := HPT.out; rw [if_neg (by omega)] at h; first | exact h | (exfalso; omega))), HY.out, (by repeat (first | (with_reducible refine WayI.drew ?_) | (with_reducible refine WayI.drewN ?_ _)); exact HW.out)⟩
            · by_cases h2 : y0 < x0
              · go_wp2_with fail
                go_quiet (fail)
                go_wp2_with fail
                go_quiet (fail)
                go_wp2_with fail
                go_quiet (fail)
                go_wp2_with fail
                all_goals
                  go_meet
                  exact ⟨_, _, _, _, mst_2 x y (by omega) (by omega), rfl, rfl, HX.out, (by rcases Nat.eq_or_lt_of_le (show 1 ≤ cq by omega) with hh | hh; (have h := HQT.out; rw [if_pos hh.symm, show cq - 1 = 0 by omega] at h; first | exact h | (exfalso; omega)); (have h := HQT.out; rw [if_neg (by omega)] at h; first | exact h | (exfalso; omega))), (by repeat (first | (with_reducible refine WayI.drew ?_) | (with_reducible refine WayI.drewN ?_ _)); exact HW.out)⟩
              · go_wp2_with fail
                go_quiet (fail)
                go_wp2_with fail
                go_quiet (fail)
                go_wp2_with fail
                go_quiet (fail)
                go_wp2_with fail
                all_goals
                  go_meet
                  exact ⟨_, _, _, _, mst_4 x y (by omega) (by omega), rfl, rfl, (by rcases Nat.eq_or_lt_of_le (show 1 ≤ cp by omega) with hh | hh; (have h := HPT.out; rw [if_pos hh.symm, show cp - 1 = 0 by omega] at h; first | exact h | (exfalso; omega)); (have h := HPT.out; rw [if_neg (by omega)] at h; first | exact h | (exfalso; omega))), (by rcases Nat.eq_or_lt_of_le (show 1 ≤ cq by omega) with hh | hh; (have h := HQT.out; rw [if_pos hh.symm, show cq - 1 = 0 by omega] at h; first | exact h | (exfalso; omega)); (have h := HQT.out; rw [if_neg (by omega)] at h; first | exact h | (exfalso; omega))), (by repeat (first | (with_reducible refine WayI.drew ?_) | (with_reducible refine WayI.drewN ?_ _)); exact HW.out)⟩
          case rest =>
            obtain ⟨k, v, x2, y2, hm, rfl, rfl, hx2, hy2, hW2⟩ := hcut
            have hless := mst_less hm
            have HM := Hidden.mk hm
            have HX2 := Hidden.mk hx2
            have HY2 := Hidden.mk hy2
            have HW2 := Hidden.mk hW2
            have hk : k = 1 ∨ k = 2 ∨ k = 4 := mst_kind hm
            have hf : (bits .and .i64 S (k : Int) != 0) = f k := by
              rcases hk with rfl | rfl | rfl
              · exact F.out.1
              · exact F.out.2.1
              · exact F.out.2.2
            obtain ⟨p2, cp2, rfl, _⟩ := hx2.slice_
            obtain ⟨q2, cq2, rfl, _⟩ := hy2.slice_
            clear hm hx2 hy2 hW2 hk
            cases hfk : f k with
            | true =>
              have hlt : acc.length + 1 ≤ 200001 := by have := HACC.out; omega
              have hE2 := Hidden.mk (show (acc ++ [v]) ++ mg f x2 y2 = mg f a b from by rw [← HE.out, mg_take HM.out hfk]; simp)
              have hl2 := Hidden.mk (show acc.length + 1 = (acc ++ [v]).length from by simp)
              have hd := Hidden.mk (icells_snoc .u16 acc v)
              have hw2 := Hidden.mk (HW2.out.alloc (.cells #[.int .u16 v] 24))
              have hn1 := Hidden.mk (holds_one wc (.int .u16 v) 24 rfl)
              rw [hfk] at hf
              clear hfk
              go_wp2_with (refine wpList_any rfl (.tmp 70) (.tmp 72) 22 rfl 24 (.int .u16 0) 1 2 (by kernel_rfl) info16 rfl (by decide) _ _ _ rfl hw2.out.row _ _ _ rfl hn1.out (by simp [Value.oneCell']) (by omega) (by omega) ?_; intro b4 c4 w4 hr4 hm4 hf4; have hW4 := Hidden.mk (hw2.out.next hr4 hm4 hf4 hd.out); clear hr4 hm4 hf4 hw2)
              go_roundw
              case rel => exact ⟨x2, y2, acc ++ [v], HX2.out, HY2.out, by rw [← hl2.out]; exact hW4.out, hE2.out⟩
              case measure => simp only [slen_slice]; have := hless; simp only [List.length_cons, List.length_nil] at this; omega
            | false =>
              have hE2 := Hidden.mk (show acc ++ mg f x2 y2 = mg f a b from by rw [← HE.out, mg_skip HM.out hfk])
              rw [hfk] at hf
              clear hfk
              go_wp2_with fail
              go_roundw
              case rel => exact ⟨x2, y2, acc, HX2.out, HY2.out, HW2.out, hE2.out⟩
              case measure => simp only [slen_slice]; have := hless; simp only [List.length_cons, List.length_nil] at this; omega
/-- What one of them has, so far. -/
def orL (ls : List (List Int)) : List Int := ls.foldl (fun a b => mg (fun _ => true) a b) []
def andL : List (List Int) → List Int
  | [] => []
  | l :: ls => ls.foldl (fun a b => mg (fun k => k == 4) a b) l
set_option maxHeartbeats 400000 in
theorem less_16 {w : World} {va vb : Value} {a b : List Int} (ha : ISl .u16 w va a) (hb : ISl .u16 w vb b) (hla : a.length ≤ 100000) (hlb : b.length ≤ 100000) :
    Calls Try.prog 54 #[va, vb] w (RowOnly .u16 24 w (mg (fun k => k == 1) a b)) := by
  have h := Hidden.mk (merge16 1 (fun k => k == 1) ha hb hla hlb (by decide) (by decide) (by decide))
  obtain ⟨aa, ca, rfl, _⟩ := ha.slice_
  obtain ⟨ab, cb, rfl, _⟩ := hb.slice_
  clear ha hb
  go_enter Try.func54, Try.ntmps54
  go_wp2_with fail
  refine h.out.mono ?_
  rintro e w1 ⟨v1, rfl, hW⟩
  have HW := Hidden.mk hW
  clear hW
  go_wp2_with fail
  go_ret
  exact ⟨v1, rfl, HW.out⟩
set_option maxHeartbeats 400000 in
theorem xor_16 {w : World} {va vb : Value} {a b : List Int} (ha : ISl .u16 w va a) (hb : ISl .u16 w vb b) (hla : a.length ≤ 100000) (hlb : b.length ≤ 100000) :
    Calls Try.prog 55 #[va, vb] w (RowOnly .u16 24 w (mg (fun k => k == 1 || k == 2) a b)) := by
  have h := Hidden.mk (merge16 3 (fun k => k == 1 || k == 2) ha hb hla hlb (by decide) (by decide) (by decide))
  obtain ⟨aa, ca, rfl, _⟩ := ha.slice_
  obtain ⟨ab, cb, rfl, _⟩ := hb.slice_
  clear ha hb
  go_enter Try.func55, Try.ntmps55
  go_wp2_with fail
  refine h.out.mono ?_
  rintro e w1 ⟨v1, rfl, hW⟩
  have HW := Hidden.mk hW
  clear hW
  go_wp2_with fail
  go_ret
  exact ⟨v1, rfl, HW.out⟩
theorem orL_len (ls : List (List Int)) (i : Nat) (M : Nat) (h : ∀ l ∈ ls, l.length ≤ M) : (orL (ls.take i)).length ≤ i * M := by
  unfold orL
  induction i with
  | zero => simp
  | succ i ih =>
    rw [List.take_add_one]
    cases hi : ls[i]? with
    | none => simp; have e : i * M ≤ (i + 1) * M := Nat.mul_le_mul_right _ (by omega); omega
    | some l =>
      simp only [Option.toList_some, List.foldl_append, List.foldl_cons, List.foldl_nil]
      have h1 := mg_len (fun _ => true) _ (List.foldl (fun a b => mg (fun _ => true) a b) [] (ls.take i)) l (Nat.le_refl _)
      have h2 := h l (List.mem_of_getElem? hi)
      have : (i + 1) * M = i * M + M := by rw [Nat.add_mul, Nat.one_mul]
      omega
set_option maxHeartbeats 1000000 in
theorem or_16 {w : World} {v : Value} {ls : List (List Int)} (h : LSl .u16 w v ls) (hn : ls.length ≤ 5) (hl : ∀ l ∈ ls, l.length ≤ 1000) :
    Calls Try.prog 52 #[v] w (RowOnly .u16 24 w (orL ls)) := by
  obtain ⟨a, cap, rfl, k1, k2⟩ := h.slice_
  have hg := fun i (hi : i < ls.length) => h.get hi
  have HG := Hidden.mk hg
  have HO : Hidden (∀ i, i ≤ 5 → (orL (ls.take i)).length ≤ 5000) := ⟨fun i hi => by have := orL_len ls i 1000 hl; omega⟩
  have HL := Hidden.mk hl
  clear hg h hl
  generalize hn' : ls.length = n at *
  have HN := Hidden.mk hn'
  clear hn'
  go_enter Try.func52, Try.ntmps52
  go_wp2_with fail
  go_loopw [3, 5, 8] (fun vo _ vi wr => ∃ i : Nat, i ≤ n ∧ vi = .int .i64 i ∧ WayI .u16 24 w wr vo (orL (ls.take i)).length (orL (ls.take i))) (fun _ _ vi _ => n - (intOf vi).toNat)
  case atStart => exact ⟨0, by omega, rfl, WayI.nil_ (Mod.refl [] w)⟩
  case round =>
    obtain ⟨i, hi, rfl, hW⟩ := hrel
    by_cases hin : i < n
    · obtain ⟨sb, so, u, l, rfl, hb, hli, hc, hu⟩ := HG.out i hin
      have hc2 : wr.cell? ⟨sb, so + i, none⟩ = some u := (Below.cell (p := ⟨sb, so + i, none⟩) hW.mod.below' hb).trans hc
      have hM := Hidden.mk (merge16 7 (fun _ => true) hW.isl.2 (hu.news hW.mod) (by have := HO.out i (by omega); omega) (by have := HL.out l (List.mem_of_getElem? hli); omega) (by decide) (by decide) (by decide))
      have HE : Hidden (mg (fun _ => true) (orL (ls.take i)) l = orL (ls.take (i + 1))) := ⟨by unfold orL; rw [List.take_add_one, hli]; simp⟩
      have HW := Hidden.mk hW.mod
      obtain ⟨uo, uc, huo, _⟩ := hW.isl.2.slice_
      obtain ⟨va, vc, rfl, _⟩ := hu.slice_
      clear hW hc hu hli
      subst huo
      go_wp2_with fail
      refine hM.out.mono ?_
      rintro e w1 ⟨v1, rfl, hW1⟩
      have HW1 := Hidden.mk (hW1.after HW.out)
      clear hW1 hM
      rw [HE.out] at HW1
      go_wp2_with fail
      go_roundw
      case rel => exact ⟨i + 1, by omega, by go_num, HW1.out⟩
      case measure => simp [intOf]; omega
    · have e : i = n := by omega
      subst e
      have HW := Hidden.mk hW
      clear hW
      go_wp2_with fail
      go_ret
      exact ⟨_, rfl, by have := HW.out; rwa [← HN.out, List.take_length] at this⟩
end Go.Proofs.Ythcjnijggebcaaa
