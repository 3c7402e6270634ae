/- The pool of stepstone/chain.link: Alloc, Free, Clear; what one that builds on it sees. -/
import Derived.Test.YtfioekkegihkoaaPoolL
namespace Go.Proofs.Ytfioekkegihkoaa
open Go.RowKit
set_option linter.unusedVariables false
set_option linter.unusedSimpArgs false

theorem poolL_info : (Try.prog.info? 162).map (fun i => (i.zero, i.size, i.bytes)) = some (some (.agg #[.int .u64 0, .int .i64 0, .int .i64 0, .bool false]), 4, 32) := by kernel_rfl
set_option maxHeartbeats 400000 in
theorem poolL_alloc_full (pb mb : Nat) (cv fv : Value) (s : PS VL) (v : VL) (w : World) (h : PoolIn TL w pb mb cv fv s) (hf : ¬ s.live < s.limit) :
    Calls Try.prog 109 #[.pointer (some ⟨pb, 0, none⟩), .agg #[.int .u64 v.1, .int .i64 v.2.1, .int .i64 v.2.2]] w fun e w' => e = .returned (.tuple #[.int .i64 0, .bool false]) ∧ Mod [] w w' := by
  obtain ⟨ke, pr, ne⟩ := v
  simp only
  have hr := poolL_room pb mb cv fv s 1 _ (h.mod ((Mod.refl [] w).alloc (.cells #[.int .u64 ke, .int .i64 pr, .int .i64 ne] 121)) (by simp))
  have hd : decide ((1 : Int) ≤ (s.limit : Int) - s.live) = false := by simp; omega
  rw [hd] at hr
  clear h hf hd
  go_enter Try.func109, Try.ntmps109
  go_wp2_with (go_at_call 140; refine hr.mono ?_; clear hr; rintro e w' ⟨rfl, hm⟩)
  go_ret2
  exact ⟨rfl, ((Mod.refl _ w).alloc _).trans hm (by simp)⟩
set_option maxRecDepth 100000 in
set_option maxHeartbeats 2000000 in
theorem poolL_alloc_re (pb mb : Nat) (cv fv : Value) (s : PS VL) (v : VL) (i : Nat) (w : World) (h : PoolIn TL w pb mb cv fv s) (hf : s.live < s.limit) (hi : s.free.getLast? = some i) :
    Calls Try.prog 109 #[.pointer (some ⟨pb, 0, none⟩), .agg #[.int .u64 v.1, .int .i64 v.2.1, .int .i64 v.2.2]] w fun e w' => e = .returned (.tuple #[.int .i64 i, .bool true]) ∧
      ∃ cv' fv', PoolIn TL w' pb mb cv' fv' (s.take v) ∧ Mod (pb :: (rb cv ++ rb fv)) w w' ∧ (∀ k ∈ rb cv' ++ rb fv', k ∈ rb cv ++ rb fv ∨ w.heap.size ≤ k) := by
  have het : ∀ v, s.take v = { s with cells := s.cells.set i (some v), free := s.free.dropLast } := fun v => by unfold PS.take; rw [hi]
  obtain ⟨ke, pr, ne⟩ := v
  simp only
  have hpbw := h.blk.lt
  have hr := poolL_room pb mb cv fv s 1 _ (h.mod ((Mod.refl [] w).alloc (.cells #[.int .u64 ke, .int .i64 pr, .int .i64 ne] 121)) (by simp))
  have hd : decide ((1 : Int) ≤ (s.limit : Int) - s.live) = true := by simp; omega
  rw [hd] at hr
  clear hd
  go_enter Try.func109, Try.ntmps109
  go_wp2_with fail
  refine hr.mono ?_; clear hr; rintro e w1 ⟨rfl, hm0⟩
  have hX := (Blk.new w 121 #[.int .u64 ke, .int .i64 pr, .int .i64 ne]).mod hm0 (by simp)
  have x0 : w1.cell? ⟨w.heap.size, 0, none⟩ = some (.int .u64 ke) := hX.cell 0
  have xf0 := hX.frozen 0
  have x1 : w1.cell? ⟨w.heap.size, 1, none⟩ = some (.int .i64 pr) := hX.cell 1
  have xf1 := hX.frozen 1
  have x2 : w1.cell? ⟨w.heap.size, 2, none⟩ = some (.int .i64 ne) := hX.cell 2
  have xf2 := hX.frozen 2
  have hm : Mod [] w w1 := ((Mod.refl _ w).alloc _).trans hm0 (by simp)
  clear hm0 hX
  have h1 := h.mod hm (by simp)
  have hin : i ∈ s.free := List.mem_of_getLast? hi
  have hic := (h.wf.mem i).1 hin
  have hilt : i < s.cells.length := (List.getElem?_eq_some_iff.1 hic).1
  have hflen : 0 < s.free.length := List.length_pos_of_mem hin
  obtain ⟨fb, fcap, rfl, f1, f2, f3, f4, f5, f6⟩ := h1.free.at_ hflen
  obtain ⟨g, cap, rfl, g1, g2, g3, g4, g5, g6, g7⟩ := h1.at_ (by omega)
  have hglt : g < w.heap.size := h.cells.lt (by rw [g1]; simp)
  have hflt : fb < w.heap.size := h.free.lt (by rw [f1]; simp)
  have hlast : w1.cell? ⟨fb, s.free.length - 1, none⟩ = some (.int .i64 i) := by
    rw [f5 _ (by omega), List.getElem?_map]
    rw [List.getLast?_eq_getElem?] at hi
    rw [hi]; rfl
  have c1 := h1.c1
  have c2 := h1.c2
  have c3 := h1.c3
  have hpb := h1.blk.lt
  have fr := h1.blk.frozen
  have fr1 := fr 1
  have fr2 := fr 2
  have fr3 := fr 3
  have fg0 := g7 (i * 4)
  have fg1 := g7 (i * 4 + 1)
  have fg2 := g7 (i * 4 + 2)
  have fg3 := g7 (i * 4 + 3)
  have hd0 := g6 i 0 _ hic (by simp [TL])
  rw [show TL.sz + 1 = 4 from rfl] at hd0
  simp only [PT.cell, TL, List.cons_append, List.nil_append, List.singleton_append, Nat.add_zero, List.getElem?_cons_zero, List.getElem?_cons_succ] at hd0
  have hd1 := g6 i 1 _ hic (by simp [TL])
  rw [show TL.sz + 1 = 4 from rfl] at hd1
  simp only [PT.cell, TL, List.cons_append, List.nil_append, List.singleton_append, Nat.add_zero, List.getElem?_cons_zero, List.getElem?_cons_succ] at hd1
  have hd2 := g6 i 2 _ hic (by simp [TL])
  rw [show TL.sz + 1 = 4 from rfl] at hd2
  simp only [PT.cell, TL, List.cons_append, List.nil_append, List.singleton_append, Nat.add_zero, List.getElem?_cons_zero, List.getElem?_cons_succ] at hd2
  have hd3 := g6 i 3 _ hic (by simp [TL])
  rw [show TL.sz + 1 = 4 from rfl] at hd3
  simp only [PT.cell, TL, List.cons_append, List.nil_append, List.singleton_append, Nat.add_zero, List.getElem?_cons_zero, List.getElem?_cons_succ] at hd3
  have hfp : fb ≠ pb := by
    have := h1.free.ty h1.blk TL.n2; rw [f1] at this; simp at this; exact fun e => this e.symm
  have hfg : fb ≠ g := by
    have := h1.cells.ty2 h1.free (Ne.symm TL.n3) fb (by rw [f1]; simp); rw [g1] at this; simpa using this
  have hb1 := h1.wf.lim
  have hb2 := h1.wf.len
  have H := Hidden.mk (And.intro h1 (And.intro hm (And.intro hf hilt)))
  have HE := Hidden.mk het
  have G1 := Hidden.mk g1
  have F1 := Hidden.mk f1
  have hlv : s.live < 1048576 := by omega
  clear h h1 g6 g7 f5 f6 fr hic hi hm het hin hf g1 f1
  go_wp2
  refine wp_tail 7 (by kernel_rfl) (by kernel_rfl) ?_
  simp only [List.take_succ_cons, List.take_zero, List.drop_succ_cons, List.drop_zero]
  repeat still_step
  refine wpStill_nil ?_
  go_wp2
  go_ret2
  obtain ⟨h1, hm, hf, hilt⟩ := H.out
  have hl2 : (TL.row s).length = s.cells.length * 4 := flat_len TL.cell 4 TL.cell_len s.cells
  have hb : (i + 1) * 4 ≤ s.cells.length * 4 := Nat.mul_le_mul_right _ hilt
  refine ⟨rfl, .slice (some ⟨g, 0, none⟩) s.cells.length cap, .slice (some ⟨fb, 0, none⟩) (s.free.length - 1) fcap, ⟨?_, ?_, ?_, PS.take_wf h1.wf hf _⟩, ?_, ?_⟩
  · rw [PS.take_live h1.wf _, HE.out]
    repeat (first | with_reducible refine Blk.drew ?_ | with_reducible refine Blk.drewN ?_ _ | with_reducible refine Blk.alloc ?_ _ | with_reducible refine Blk.far ?_ (Ne.symm g5) _)
    exact ((h1.blk.set 3 _).set 2 _)
  · have hset : TL.row (s.take (ke, pr, ne)) = (((((TL.row s).set (i * 4) (.int .u64 ke)).set (i * 4 + 1) (.int .i64 pr)).set (i * 4 + 2) (.int .i64 ne)).set (i * 4 + 3) (.bool true)) := by
      have h3 := setAll_eq (TL.row s) (i * 4) [.int .u64 ke, .int .i64 pr, .int .i64 ne, .bool true] (by simp; omega)
      have h4 : (((((TL.row s).set (i * 4) (.int .u64 ke)).set (i * 4 + 1) (.int .i64 pr)).set (i * 4 + 2) (.int .i64 ne)).set (i * 4 + 3) (.bool true)) = setAll (TL.row s) (i * 4) [.int .u64 ke, .int .i64 pr, .int .i64 ne, .bool true] := rfl
      rw [h4, h3, HE.out, PT.row]
      simp only
      rw [flat_put TL.cell 4 TL.cell_len _ _ hilt]; rfl
    have hlen : (s.take (ke, pr, ne)).cells.length = s.cells.length := by rw [HE.out]; simp
    rw [hset, hlen]
    repeat (first | with_reducible refine Row.drew ?_ | with_reducible refine Row.drewN ?_ _ | with_reducible refine Row.alloc ?_ _ | with_reducible refine Row.stored ?_ _ _ | ((with_reducible refine Row.far ?_ ?_ _); rotate_left 1; (rw [G1.out]; simpa using Ne.symm g5)))
    exact h1.cells
  · have hcut := h1.free.cut (k := s.free.length - 1) (by omega)
    rw [Nat.mul_one, ← List.map_take, ← List.dropLast_eq_take] at hcut
    have hlen : (s.take (ke, pr, ne)).free.length = s.free.length - 1 := by rw [HE.out]; simp
    have hfe : (s.take (ke, pr, ne)).free = s.free.dropLast := by rw [HE.out]
    rw [hlen, hfe]
    have hrb : rb (.slice (some ⟨fb, 0, none⟩) (s.free.length - 1) fcap) = [fb] := rfl
    repeat (first | with_reducible refine Row.drew ?_ | with_reducible refine Row.drewN ?_ _ | with_reducible refine Row.alloc ?_ _ | ((with_reducible refine Row.far ?_ ?_ _); rotate_left 1; (rw [hrb]; first | simpa using Ne.symm hfp | simpa using Ne.symm hfg)))
    exact hcut
  · have hm' : Mod (pb :: (rb (.slice (some ⟨g, 0, none⟩) s.cells.length cap) ++ rb (.slice (some ⟨fb, 0, none⟩) s.free.length fcap))) w w1 := hm.mono (by simp)
    repeat (first | with_reducible refine Mod.drew ?_ | with_reducible refine Mod.drewN ?_ _ | with_reducible refine Mod.alloc ?_ _ | ((with_reducible refine Mod.set ?_ ?_ _); rotate_left 1; (left; rw [G1.out]; simp)))
    exact hm'
  · exact fun k hk => .inl hk
set_option maxRecDepth 100000 in
set_option maxHeartbeats 2000000 in
theorem poolL_alloc_new (pb mb : Nat) (cv fv : Value) (s : PS VL) (v : VL) (w : World) (h : PoolIn TL w pb mb cv fv s) (hf : s.live < s.limit) (hi : s.free = []) :
    Calls Try.prog 109 #[.pointer (some ⟨pb, 0, none⟩), .agg #[.int .u64 v.1, .int .i64 v.2.1, .int .i64 v.2.2]] w fun e w' => e = .returned (.tuple #[.int .i64 s.cells.length, .bool true]) ∧
      ∃ cv' fv', PoolIn TL w' pb mb cv' fv' (s.take v) ∧ Mod (pb :: (rb cv ++ rb fv)) w w' ∧ (∀ k ∈ rb cv' ++ rb fv', k ∈ rb cv ++ rb fv ∨ w.heap.size ≤ k) := by
  have het : ∀ v, s.take v = { s with cells := s.cells ++ [some v] } := fun v => by unfold PS.take; rw [hi]; rfl
  obtain ⟨ke, pr, ne⟩ := v
  simp only
  have hpbw := h.blk.lt
  have hr := poolL_room pb mb cv fv s 1 _ (h.mod ((Mod.refl [] w).alloc (.cells #[.int .u64 ke, .int .i64 pr, .int .i64 ne] 121)) (by simp))
  have hd : decide ((1 : Int) ≤ (s.limit : Int) - s.live) = true := by simp; omega
  rw [hd] at hr
  clear hd
  go_enter Try.func109, Try.ntmps109
  go_wp2_with fail
  refine hr.mono ?_; clear hr; rintro e w1 ⟨rfl, hm0⟩
  have hX := (Blk.new w 121 #[.int .u64 ke, .int .i64 pr, .int .i64 ne]).mod hm0 (by simp)
  have x0 : w1.cell? ⟨w.heap.size, 0, none⟩ = some (.int .u64 ke) := hX.cell 0
  have xf0 := hX.frozen 0
  have x1 : w1.cell? ⟨w.heap.size, 1, none⟩ = some (.int .i64 pr) := hX.cell 1
  have xf1 := hX.frozen 1
  have x2 : w1.cell? ⟨w.heap.size, 2, none⟩ = some (.int .i64 ne) := hX.cell 2
  have xf2 := hX.frozen 2
  have hm : Mod [] w w1 := ((Mod.refl _ w).alloc _).trans hm0 (by simp)
  clear hm0 hX
  have h1 := h.mod hm (by simp)
  have hcnt := h1.wf.count
  have hb1 := h1.wf.lim
  have hb2 := h1.wf.len
  have hrow := h1.cells
  have hfree := h1.free
  rw [hi] at hfree hcnt
  simp only [List.length_nil] at hfree hcnt
  obtain ⟨a, cap, rfl, k1, k2⟩ := hrow.slice_
  obtain ⟨fa, fcap, rfl, k3, k4⟩ := hfree.slice_
  have c1 := h1.c1
  have c2 := h1.c2
  have c3 := h1.c3
  have hpb := h1.blk.lt
  have fr1 := h1.blk.frozen 1
  have fr3 := h1.blk.frozen 3
  have hpn := h1.cells.ty h1.blk TL.n1
  have hW : Blk ((((w1.setCell ⟨pb, 3, none⟩ (.int .i64 ((s.live : Int) + 1))).alloc (.cells #[.int .u64 ke, .int .i64 pr, .int .i64 ne, .bool true] 162)).alloc (.cells #[.int .u64 ke, .int .i64 pr, .int .i64 ne, .bool true] 162)).drew) pb TL.tp
      (poolCells mb (.slice a s.cells.length cap) (.slice fa 0 fcap) (s.live + 1) s.limit) := (((h1.blk.set 3 _).alloc _).alloc _).drew
  have hR : Row ((((w1.setCell ⟨pb, 3, none⟩ (.int .i64 ((s.live : Int) + 1))).alloc (.cells #[.int .u64 ke, .int .i64 pr, .int .i64 ne, .bool true] 162)).alloc (.cells #[.int .u64 ke, .int .i64 pr, .int .i64 ne, .bool true] 162)).drew) 162 4 (.slice a s.cells.length cap) s.cells.length (TL.row s) := (((hrow.far (p := ⟨pb, 3, none⟩) hpn _).alloc _).alloc _).drew
  have hN := (((Blk.new' (w := (w1.setCell ⟨pb, 3, none⟩ (.int .i64 ((s.live : Int) + 1))).alloc (.cells #[.int .u64 ke, .int .i64 pr, .int .i64 ne, .bool true] 162)) (b := w1.heap.size + 1) (by simp [World.setCell]) 162 #[.int .u64 ke, .int .i64 pr, .int .i64 ne, .bool true])).drew).news
  have hF : Row ((((w1.setCell ⟨pb, 3, none⟩ (.int .i64 ((s.live : Int) + 1))).alloc (.cells #[.int .u64 ke, .int .i64 pr, .int .i64 ne, .bool true] 162)).alloc (.cells #[.int .u64 ke, .int .i64 pr, .int .i64 ne, .bool true] 162)).drew) 3 1 (.slice fa 0 fcap) 0 [] := (((hfree.far (p := ⟨pb, 3, none⟩) (h1.free.ty h1.blk TL.n2) _).alloc _).alloc _).drew
  have hM : Mod (pb :: (rb (.slice a s.cells.length cap) ++ rb (.slice fa 0 fcap))) w ((((w1.setCell ⟨pb, 3, none⟩ (.int .i64 ((s.live : Int) + 1))).alloc (.cells #[.int .u64 ke, .int .i64 pr, .int .i64 ne, .bool true] 162)).alloc (.cells #[.int .u64 ke, .int .i64 pr, .int .i64 ne, .bool true] 162)).drew) := (((hm.mono (by simp)).set (.inl (by simp)) _).alloc _).alloc _ |>.drew
  have hWF : Hidden ((s.take (ke, pr, ne)).wf ∧ (s.take (ke, pr, ne)).live = s.live + 1 ∧ s.take (ke, pr, ne) = { s with cells := s.cells ++ [some (ke, pr, ne)] } ∧ s.free = []) := ⟨PS.take_wf h1.wf hf _, PS.take_live h1.wf _, het _, hi⟩
  have hfc : ∀ k ∈ rb (.slice fa 0 fcap), k ∉ rb (.slice a s.cells.length cap) := hrow.ty2 hfree (Ne.symm TL.n3)
  have hpf := h1.free.ty h1.blk TL.n2
  have hsz : w.heap.size ≤ w1.heap.size := hm.size
  have hlv : s.live < 1048576 := by omega
  clear h h1 hi hrow hfree hcnt het hf hm
  go_wp2
  go_region_law (refine step_app rfl (.tmp 58) (.tmp 60) 122 rfl 162 (.agg #[.int .u64 0, .int .i64 0, .int .i64 0, .bool false]) 4 32 (by kernel_rfl) poolL_info rfl (by decide) (.slice a s.cells.length cap) s.cells.length (TL.row s) rfl hR ⟨w1.heap.size + 1, 0, none⟩ 1 1 [.int .u64 ke, .int .i64 pr, .int .i64 ne, .bool true] rfl rfl hN (by simp [Value.oneCell']) (by omega) (by omega) ?_; intro b' cap' w3 r3 m3 q3; have hb3 := hW.mod m3 hpn; have hc3 : w3.cell? ⟨pb, 1, none⟩ = some (.slice a s.cells.length cap) := hb3.cell 1; have hf3 := hb3.frozen 1; have hl3 := hb3.lt)
  all_goals
    go_wp2
    go_ret2
    obtain ⟨e1, e2, e3, e4⟩ := hWF.out
    have hpn' : pb ∉ rb (.slice b' (s.cells.length + 1) cap') := r3.ty hb3 TL.n1
    have hF3 := hF.mod m3 hfc
    refine ⟨ret_eq (by omega), .slice b' (s.cells.length + 1) cap', .slice fa 0 fcap, ⟨?_, ?_, ?_, e1⟩, ?_, ?_⟩
    · rw [e2, e3]; exact hb3.set 1 _
    · rw [e3]; simp only [List.length_append, List.length_cons, List.length_nil]
      rw [PT.row, List.flatMap_append]; exact r3.far (p := ⟨pb, 1, none⟩) hpn' _
    · rw [e3]; simp only [e4, List.length_nil, List.map_nil]; exact hF3.far (p := ⟨pb, 1, none⟩) hpf _
    · exact (hM.trans m3 (by simp +contextual)).set (.inl (by simp)) _
    · intro k hk
      simp only [List.mem_append] at hk ⊢
      rcases hk with hk | hk
      · rcases q3 k hk with hk | hk
        · exact .inl (.inl hk)
        · right; simp [World.setCell] at hk; omega
      · exact .inl (.inr hk)
set_option maxRecDepth 100000 in
set_option maxHeartbeats 1000000 in
theorem poolL_free_yes (pb mb : Nat) (cv fv : Value) (s : PS VL) (i : Nat) (u : VL) (w : World) (h : PoolIn TL w pb mb cv fv s) (hg : s.get i = some u) :
    Calls Try.prog 120 #[.pointer (some ⟨pb, 0, none⟩), .int .i64 i] w fun e w' => e = .returned (.bool true) ∧
      ∃ cv' fv', PoolIn TL w' pb mb cv' fv' (s.drop i) ∧ Mod (pb :: (rb cv ++ rb fv)) w w' ∧ (∀ k ∈ rb cv' ++ rb fv', k ∈ rb cv ++ rb fv ∨ w.heap.size ≤ k) := by
  have hl := poolL_live pb mb cv fv s i w h
  rw [hg] at hl
  obtain ⟨_, hs⟩ := PS.get_some hg
  simp only [Int.toNat_natCast] at hs
  have hj : i < s.cells.length := (List.getElem?_eq_some_iff.1 hs).1
  have hcnt := h.wf.count
  have hb1 := h.wf.lim
  have hb2 := h.wf.len
  have hlive := PS.drop_live hs
  obtain ⟨g, cap, rfl, g1, g2, g3, g4, g5, g6, g7⟩ := h.at_ (by omega)
  obtain ⟨oke, opr, one⟩ := u
  have hd0 := g6 i 0 _ hs (by simp [TL])
  rw [show TL.sz + 1 = 4 from rfl] at hd0
  simp only [PT.cell, TL, List.cons_append, List.nil_append, List.singleton_append, Nat.add_zero, List.getElem?_cons_zero, List.getElem?_cons_succ] at hd0
  have hd1 := g6 i 1 _ hs (by simp [TL])
  rw [show TL.sz + 1 = 4 from rfl] at hd1
  simp only [PT.cell, TL, List.cons_append, List.nil_append, List.singleton_append, Nat.add_zero, List.getElem?_cons_zero, List.getElem?_cons_succ] at hd1
  have hd2 := g6 i 2 _ hs (by simp [TL])
  rw [show TL.sz + 1 = 4 from rfl] at hd2
  simp only [PT.cell, TL, List.cons_append, List.nil_append, List.singleton_append, Nat.add_zero, List.getElem?_cons_zero, List.getElem?_cons_succ] at hd2
  have hd3 := g6 i 3 _ hs (by simp [TL])
  rw [show TL.sz + 1 = 4 from rfl] at hd3
  simp only [PT.cell, TL, List.cons_append, List.nil_append, List.singleton_append, Nat.add_zero, List.getElem?_cons_zero, List.getElem?_cons_succ] at hd3
  obtain ⟨fa, fcap, rfl, k3, k4⟩ := h.free.slice_
  have c1 := h.c1
  have c2 := h.c2
  have c3 := h.c3
  have hpb := h.blk.lt
  have fr2 := h.blk.frozen 2
  have fr3 := h.blk.frozen 3
  have fg0 := g7 (i * 4)
  have fg1 := g7 (i * 4 + 1)
  have fg2 := g7 (i * 4 + 2)
  have fg3 := g7 (i * 4 + 3)
  have hpf := h.free.ty h.blk TL.n2
  have hgf : g ∉ rb (.slice fa s.free.length fcap) := fun hk => by have := h.free.ty2 h.cells (e' := TL.tc) TL.n3 g (by rw [g1]; simp); exact this hk
  have hW : Blk (((((w.setCell ⟨g, i * 4, none⟩ (.int .u64 0)).setCell ⟨g, i * 4 + 1, none⟩ (.int .i64 0)).setCell ⟨g, i * 4 + 2, none⟩ (.int .i64 0)).setCell ⟨g, i * 4 + 3, none⟩ (.bool false)).alloc (.cells #[.int .i64 i] 3)) pb TL.tp (poolCells mb (.slice (some ⟨g, 0, none⟩) s.cells.length cap) (.slice fa s.free.length fcap) s.live s.limit) :=
    ((((h.blk.far (p := ⟨g, i * 4, none⟩) (Ne.symm g5) _).far (p := ⟨g, i * 4 + 1, none⟩) (Ne.symm g5) _).far (p := ⟨g, i * 4 + 2, none⟩) (Ne.symm g5) _).far (p := ⟨g, i * 4 + 3, none⟩) (Ne.symm g5) _).alloc _
  have hF : Row (((((w.setCell ⟨g, i * 4, none⟩ (.int .u64 0)).setCell ⟨g, i * 4 + 1, none⟩ (.int .i64 0)).setCell ⟨g, i * 4 + 2, none⟩ (.int .i64 0)).setCell ⟨g, i * 4 + 3, none⟩ (.bool false)).alloc (.cells #[.int .i64 i] 3)) 3 1 (.slice fa s.free.length fcap) s.free.length (s.free.map fun i => .int .i64 (i : Nat)) :=
    ((((h.free.far (p := ⟨g, i * 4, none⟩) hgf _).far (p := ⟨g, i * 4 + 1, none⟩) hgf _).far (p := ⟨g, i * 4 + 2, none⟩) hgf _).far (p := ⟨g, i * 4 + 3, none⟩) hgf _).alloc _
  have hC : Row (((((w.setCell ⟨g, i * 4, none⟩ (.int .u64 0)).setCell ⟨g, i * 4 + 1, none⟩ (.int .i64 0)).setCell ⟨g, i * 4 + 2, none⟩ (.int .i64 0)).setCell ⟨g, i * 4 + 3, none⟩ (.bool false)).alloc (.cells #[.int .i64 i] 3)) TL.tc 4 (.slice (some ⟨g, 0, none⟩) s.cells.length cap) s.cells.length (TL.row (s.drop i)) := by
    have hr := (Row.stored (Row.stored (Row.stored (Row.stored h.cells (i * 4) (.int .u64 0)) (i * 4 + 1) (.int .i64 0)) (i * 4 + 2) (.int .i64 0)) (i * 4 + 3) (.bool false)).alloc (.cells #[.int .i64 i] 3)
    have hl2 : (TL.row s).length = s.cells.length * 4 := flat_len TL.cell 4 TL.cell_len s.cells
    have hb : (i + 1) * 4 ≤ s.cells.length * 4 := Nat.mul_le_mul_right _ hj
    have h3 := setAll_eq (TL.row s) (i * 4) [.int .u64 0, .int .i64 0, .int .i64 0, .bool false] (by simp; omega)
    have h4 : (((((TL.row s).set (i * 4) (.int .u64 0)).set (i * 4 + 1) (.int .i64 0)).set (i * 4 + 2) (.int .i64 0)).set (i * 4 + 3) (.bool false)) = setAll (TL.row s) (i * 4) [.int .u64 0, .int .i64 0, .int .i64 0, .bool false] := rfl
    rw [h4, h3] at hr
    rw [PT.row]
    simp only [PS.drop]
    rw [flat_put TL.cell 4 TL.cell_len _ _ hj]
    exact hr
  have hN := (Blk.new' (w := ((((w.setCell ⟨g, i * 4, none⟩ (.int .u64 0)).setCell ⟨g, i * 4 + 1, none⟩ (.int .i64 0)).setCell ⟨g, i * 4 + 2, none⟩ (.int .i64 0)).setCell ⟨g, i * 4 + 3, none⟩ (.bool false))) (b := w.heap.size) (by simp [World.setCell]) 3 #[.int .i64 i]).news
  have hM : Mod (pb :: (rb (.slice (some ⟨g, 0, none⟩) s.cells.length cap) ++ rb (.slice fa s.free.length fcap))) w (((((w.setCell ⟨g, i * 4, none⟩ (.int .u64 0)).setCell ⟨g, i * 4 + 1, none⟩ (.int .i64 0)).setCell ⟨g, i * 4 + 2, none⟩ (.int .i64 0)).setCell ⟨g, i * 4 + 3, none⟩ (.bool false)).alloc (.cells #[.int .i64 i] 3)) := (((((Mod.refl _ w).set (.inl (by rw [g1]; simp)) _).set (.inl (by rw [g1]; simp)) _).set (.inl (by rw [g1]; simp)) _).set (.inl (by rw [g1]; simp)) _).alloc _
  have hWF : Hidden ((s.drop i).wf ∧ (s.drop i).live + 1 = s.live ∧ (s.drop i).cells.length = s.cells.length ∧ (s.drop i).free = s.free ++ [i]) := ⟨PS.drop_wf h.wf hs, hlive, by simp [PS.drop], rfl⟩
  have hcf : ∀ k ∈ rb (.slice (some ⟨g, 0, none⟩) s.cells.length cap), k ∉ rb (.slice fa s.free.length fcap) := fun k hk => by rw [g1] at hk; simp at hk; subst hk; exact hgf
  have hlv : 0 ≤ (s.live : Int) - 1 := by omega
  have hpc := h.cells.ty h.blk TL.n1
  clear h hg g6 g7 hs hlive
  go_enter Try.func120, Try.ntmps120
  go_wp2_with (first | (go_at_call 107; refine hl.mono ?_; clear hl; rintro e w' ⟨rfl, rfl⟩) | (at_builtin; refine wpList_app rfl (.tmp 20) (.tmp 22) 123 rfl 3 (.int .i64 0) 1 8 (by kernel_rfl) int_info rfl (by decide) (.slice fa s.free.length fcap) s.free.length _ rfl hF ⟨w.heap.size, 0, none⟩ 1 1 [.int .i64 i] rfl rfl hN (by simp [Value.oneCell']) (by omega) (by omega) ?_; intro b' cap' w3 r3 m3 q3; have hb3 := hW.mod m3 hpf; have hc2 : w3.cell? ⟨pb, 2, none⟩ = some (.slice fa s.free.length fcap) := hb3.cell 2; have hc3 : w3.cell? ⟨pb, 3, none⟩ = some (.int .i64 s.live) := hb3.cell 3; have hf2 := hb3.frozen 2; have hf3 := hb3.frozen 3; have hl3 := hb3.lt))
  go_ret
  obtain ⟨e1, e2, e3, e4⟩ := hWF.out
  have hpn' : pb ∉ rb (.slice b' (s.free.length + 1) cap') := r3.ty hb3 TL.n2
  have hC3 := hC.mod m3 hcf
  refine ⟨rfl, .slice (some ⟨g, 0, none⟩) s.cells.length cap, .slice b' (s.free.length + 1) cap', ⟨?_, ?_, ?_, e1⟩, ?_, ?_⟩
  · have : (s.live : Int) - 1 = ((s.drop i).live : Nat) := by omega
    rw [this]; exact (hb3.set 2 _).set 3 _
  · rw [e3]; exact (hC3.far (p := ⟨pb, 2, none⟩) hpc _).far (p := ⟨pb, 3, none⟩) hpc _
  · rw [e4]; simp only [List.length_append, List.length_cons, List.length_nil, List.map_append, List.map_cons, List.map_nil]
    exact (r3.far (p := ⟨pb, 2, none⟩) hpn' _).far (p := ⟨pb, 3, none⟩) hpn' _
  · exact ((hM.trans m3 (by simp +contextual)).set (.inl (by simp)) _).set (.inl (by simp)) _
  · intro k hk
    simp only [List.mem_append] at hk ⊢
    rcases hk with hk | hk
    · exact .inl (.inl hk)
    · rcases q3 k hk with hk | hk
      · exact .inl (.inr hk)
      · right; simp [World.setCell] at hk; omega
theorem poolL_zero (w : World) : (zeroValue 162).run Try.prog w = .ok (.agg #[.int .u64 0, .int .i64 0, .int .i64 0, .bool false]) w := by kernel_rfl
set_option maxHeartbeats 1000000 in
theorem poolL_clear (pb mb : Nat) (cv fv : Value) (s : PS VL) (w : World) (h : PoolIn TL w pb mb cv fv s) :
    Calls Try.prog 122 #[.pointer (some ⟨pb, 0, none⟩)] w fun e w' => e = .returned (.tuple #[]) ∧ PoolIn TL w' pb mb (.slice none 0 0) (.slice none 0 0) (PS.empty s.limit) ∧ Mod (pb :: (rb cv ++ rb fv)) w w' := by
  have c1 := h.c1
  have hpc := h.cells.ty h.blk TL.n1
  have hrow := h.cells
  have hlim := h.wf.lim
  obtain ⟨a, cap, rfl, k1, k2⟩ := hrow.slice_
  have H := Hidden.mk h
  have HP := Hidden.mk hpc
  clear h hpc
  go_enter Try.func122, Try.ntmps122
  go_wp2_with (refine wpList_clear rfl (.tmp 7) 122 rfl 162 (.agg #[.int .u64 0, .int .i64 0, .int .i64 0, .bool false]) 4 (by kernel_rfl) poolL_zero rfl (by simp [Value.cells, Value.oneCell']) _ _ _ rfl hrow ?_; intro w1 hm1'; have hm1 : Mod (rb (.slice a s.cells.length cap)) w w1 := hm1'; clear hm1'; have hb1 := H.out.blk.mod hm1 HP.out; have d1 : w1.cell? ⟨pb, 1, none⟩ = some (.slice a s.cells.length cap) := hb1.cell 1; have d2 : w1.cell? ⟨pb, 2, none⟩ = some fv := hb1.cell 2; have d3 : w1.cell? ⟨pb, 3, none⟩ = some (.int .i64 s.live) := hb1.cell 3; have q1 := hb1.frozen 1; have q2 := hb1.frozen 2; have q3 := hb1.frozen 3; have hl1 := hb1.lt)
  go_end0
  refine ⟨rfl, ⟨((hb1.set 1 _).set 2 _).set 3 _, Row.nil_ _ _ _, Row.nil_ _ _ _, PS.empty_wf _ hlim⟩, ?_⟩
  exact (((hm1.mono (by simp +contextual)).set (.inl (by simp)) _).set (.inl (by simp)) _).set (.inl (by simp)) _
section
variable {w : World} {pb mb : Nat} {F : List Nat} {s s' : PS VL} {i : Nat} {ok : Bool}
theorem pL_alloc (v : VL) (h : PoolAt TL w pb mb F s) (hs : s.alloc v = (s', i, ok)) :
    Calls Try.prog 109 #[.pointer (some ⟨pb, 0, none⟩), .agg #[.int .u64 v.1, .int .i64 v.2.1, .int .i64 v.2.2]] w fun e w' => e = .returned (.tuple #[.int .i64 i, .bool ok]) ∧ ∃ F', PoolAt TL w' pb mb F' s' ∧ Mod F w w' ∧ Fresh w F F' := by
  obtain ⟨cv, fv, rfl, h1⟩ := h
  unfold PS.alloc at hs
  split at hs
  · rename_i hl
    injection hs with e1 hs; injection hs with e2 e3; subst e1 e2 e3
    unfold PS.nextAt
    cases hg : s.free.getLast? with
    | none =>
      have hnil : s.free = [] := by simpa using hg
      refine (poolL_alloc_new pb mb cv fv s v w h1 hl hnil).mono ?_
      rintro e w' ⟨rfl, cv', fv', k1, k2, k3⟩
      exact ⟨rfl, _, ⟨cv', fv', rfl, k1⟩, k2, pool_fresh k3⟩
    | some i =>
      refine (poolL_alloc_re pb mb cv fv s v i w h1 hl hg).mono ?_
      rintro e w' ⟨rfl, cv', fv', k1, k2, k3⟩
      exact ⟨rfl, _, ⟨cv', fv', rfl, k1⟩, k2, pool_fresh k3⟩
  · rename_i hl
    injection hs with e1 hs; injection hs with e2 e3; subst e1 e2 e3
    refine (poolL_alloc_full pb mb cv fv s v w h1 hl).mono ?_
    rintro e w' ⟨rfl, k1⟩
    exact ⟨rfl, _, ⟨cv, fv, rfl, h1.mod k1 (by simp)⟩, k1.mono (by simp), Fresh.refl _ _⟩
theorem pL_free (i : Nat) {v : VL} (h : PoolAt TL w pb mb F s) (hg : s.get (i : Int) = some v) :
    Calls Try.prog 120 #[.pointer (some ⟨pb, 0, none⟩), .int .i64 i] w fun e w' => e = .returned (.bool true) ∧ ∃ F', PoolAt TL w' pb mb F' (s.drop i) ∧ Mod F w w' ∧ Fresh w F F' := by
  obtain ⟨cv, fv, rfl, h1⟩ := h
  refine (poolL_free_yes pb mb cv fv s i v w h1 hg).mono ?_
  rintro e w' ⟨rfl, cv', fv', k1, k2, k3⟩
  exact ⟨rfl, _, ⟨cv', fv', rfl, k1⟩, k2, pool_fresh k3⟩
theorem pL_put (i : Nat) {u : VL} (v : VL) (h : PoolAt TL w pb mb F s) (hg : s.get (i : Int) = some u) :
    Calls Try.prog 141 #[.pointer (some ⟨pb, 0, none⟩), .int .i64 i, .agg #[.int .u64 v.1, .int .i64 v.2.1, .int .i64 v.2.2]] w fun e w' => e = .returned (.bool true) ∧ PoolAt TL w' pb mb F (s.put i v) ∧ Mod F w w' := by
  obtain ⟨cv, fv, rfl, h1⟩ := h
  refine (poolL_put_yes pb mb cv fv s i v u w h1 hg).mono ?_
  rintro e w' ⟨rfl, k1, k2⟩
  exact ⟨rfl, ⟨cv, fv, rfl, by simpa using k1⟩, k2⟩
theorem pL_peek_yes {v : VL} (i : Int) (h : PoolAt TL w pb mb F s) (hg : s.get i = some v) :
    Calls Try.prog 108 #[.pointer (some ⟨pb, 0, none⟩), .int .i64 i] w fun e w' => e = .returned (.tuple #[.agg #[.int .u64 v.1, .int .i64 v.2.1, .int .i64 v.2.2], .bool true]) ∧ Mod [] w w' := by
  obtain ⟨cv, fv, rfl, h1⟩ := h; exact poolL_peek_yes pb mb cv fv s i v w h1 hg
theorem pL_peek_no (i : Int) (h : PoolAt TL w pb mb F s) (hg : s.get i = none) :
    Calls Try.prog 108 #[.pointer (some ⟨pb, 0, none⟩), .int .i64 i] w fun e w' => e = .returned (.tuple #[.agg #[.int .u64 0, .int .i64 0, .int .i64 0], .bool false]) ∧ Mod [] w w' := by
  obtain ⟨cv, fv, rfl, h1⟩ := h; exact poolL_peek_no pb mb cv fv s i w h1 hg
theorem pL_at_yes {m : Mt} {v : VL} (i : Int) (h : PoolAt TL w pb mb F s) (hm : MeterAt w mb m) (hmF : mb ∉ F) (hg : s.get i = some v) :
    Calls Try.prog 126 #[.pointer (some ⟨pb, 0, none⟩), .int .i64 i] w fun e w' => e = .returned (.tuple #[.agg #[.int .u64 v.1, .int .i64 v.2.1, .int .i64 v.2.2], .bool true]) ∧ PoolAt TL w' pb mb F s ∧ MeterAt w' mb m.read ∧ Mod [mb] w w' := by
  obtain ⟨cv, fv, rfl, h1⟩ := h
  refine (poolL_at_yes pb mb cv fv s m i v w h1 hm hg).mono ?_
  rintro e w' ⟨rfl, k1, k2⟩
  exact ⟨rfl, ⟨cv, fv, rfl, h1.mod k2 (by simpa using hmF)⟩, k1, k2⟩
theorem pL_at_no (i : Int) (h : PoolAt TL w pb mb F s) (hg : s.get i = none) :
    Calls Try.prog 126 #[.pointer (some ⟨pb, 0, none⟩), .int .i64 i] w fun e w' => e = .returned (.tuple #[.agg #[.int .u64 0, .int .i64 0, .int .i64 0], .bool false]) ∧ Mod [] w w' := by
  obtain ⟨cv, fv, rfl, h1⟩ := h; exact poolL_at_no pb mb cv fv s i w h1 hg
theorem pL_live (i : Int) (h : PoolAt TL w pb mb F s) : Calls Try.prog 107 #[.pointer (some ⟨pb, 0, none⟩), .int .i64 i] w fun e w' => e = .returned (.bool (s.get i).isSome) ∧ w = w' := by
  obtain ⟨cv, fv, rfl, h1⟩ := h; exact poolL_live pb mb cv fv s i w h1
theorem pL_len (h : PoolAt TL w pb mb F s) : Calls Try.prog 121 #[.pointer (some ⟨pb, 0, none⟩)] w fun e w' => e = .returned (.int .i64 s.live) ∧ w = w' := by
  obtain ⟨cv, fv, rfl, h1⟩ := h; exact poolL_len pb mb cv fv s w h1
theorem pL_room (n : Int) (h : PoolAt TL w pb mb F s) : Calls Try.prog 140 #[.pointer (some ⟨pb, 0, none⟩), .int .i64 n] w fun e w' => e = .returned (.bool (decide (n ≤ (s.limit : Int) - s.live))) ∧ Mod [] w w' := by
  obtain ⟨cv, fv, rfl, h1⟩ := h; exact poolL_room pb mb cv fv s n w h1
theorem pL_clear (h : PoolAt TL w pb mb F s) : Calls Try.prog 122 #[.pointer (some ⟨pb, 0, none⟩)] w fun e w' => e = .returned (.tuple #[]) ∧ ∃ F', PoolAt TL w' pb mb F' (PS.empty s.limit) ∧ Mod F w w' ∧ Fresh w F F' := by
  obtain ⟨cv, fv, rfl, h1⟩ := h
  refine (poolL_clear pb mb cv fv s w h1).mono ?_
  rintro e w' ⟨rfl, k1, k2⟩
  exact ⟨rfl, _, ⟨_, _, rfl, k1⟩, k2, pool_fresh (by simp [rb, Value.ownBlock])⟩
end
end Go.Proofs.Ytfioekkegihkoaa
