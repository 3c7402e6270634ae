/- The pool of stepstone/chain.link: Live, Room, Peek, At, Put, Len, Limit, New. -/
import Derived.Test.YtfioekkegihkoaaGPool
import Derived.Test.YtfioekkegihkoaaMore
import Derived.Laws.CopyRow
namespace Go.Proofs.Ytfioekkegihkoaa
open Go.RowKit
set_option linter.unusedVariables false
set_option linter.unusedSimpArgs false

abbrev VL := Int × Int × Int
def TL : PT VL := { tp := 125, tc := 162, sz := 3, enc := fun v => [.int .u64 v.1, .int .i64 v.2.1, .int .i64 v.2.2], zero := (0, 0, 0), len := fun _ => rfl, one := by simp [Value.oneCell'], n1 := by decide, n2 := by decide, n3 := by decide }
set_option maxHeartbeats 400000 in
theorem poolL_live_neg (pb : Nat) (i : Int) (w : World) (hi : i < 0) :
    Calls Try.prog 107 #[.pointer (some ⟨pb, 0, none⟩), .int .i64 i] w fun e w' => e = .returned (.bool false) ∧ w = w' := by
  go_enter Try.func107, Try.ntmps107
  go_wp2
  go_ret
  exact ⟨rfl, rfl⟩
set_option maxHeartbeats 400000 in
theorem poolL_live_out (pb : Nat) (a : Option Addr) (n c i : Nat) (w : World) (hn : n ≤ i) (h1 : w.cell? ⟨pb, 1, none⟩ = some (.slice a n c)) :
    Calls Try.prog 107 #[.pointer (some ⟨pb, 0, none⟩), .int .i64 i] w fun e w' => e = .returned (.bool false) ∧ w = w' := by
  go_enter Try.func107, Try.ntmps107
  go_wp2
  go_ret
  exact ⟨rfl, rfl⟩
set_option maxHeartbeats 400000 in
theorem poolL_live_in (pb cb : Nat) (n c i : Nat) (b : Bool) (w : World) (hn : i < n) (h1 : w.cell? ⟨pb, 1, none⟩ = some (.slice (some ⟨cb, 0, none⟩) n c))
    (h2 : w.cell? ⟨cb, i * 4 + 3, none⟩ = some (.bool b)) :
    Calls Try.prog 107 #[.pointer (some ⟨pb, 0, none⟩), .int .i64 i] w fun e w' => e = .returned (.bool b) ∧ w = w' := by
  go_enter Try.func107, Try.ntmps107
  go_wp2
  go_ret
  exact ⟨rfl, rfl⟩
theorem poolL_live (pb mb : Nat) (cv fv : Value) (s : PS VL) (i : Int) (w : World) (h : PoolIn TL w pb mb cv fv s) :
    Calls Try.prog 107 #[.pointer (some ⟨pb, 0, none⟩), .int .i64 i] w fun e w' => e = .returned (.bool (s.get i).isSome) ∧ w = w' := by
  by_cases hi : i < 0
  · have : s.get i = none := by simp [PS.get, hi]
    rw [this]; exact poolL_live_neg pb i w hi
  · obtain ⟨j, rfl⟩ : ∃ j : Nat, i = j := ⟨i.toNat, by omega⟩
    have hg : s.get (j : Int) = (s.cells[j]?).join := by simp [PS.get, hi]
    rw [hg]
    by_cases hj : j < s.cells.length
    · obtain ⟨g, cap, rfl, h1, h2, h3, h4, h5, h6, h7⟩ := h.at_ (by omega)
      have hs : s.cells[j]? = some s.cells[j] := List.getElem?_eq_getElem hj
      have hc := h6 j 3 _ hs (by simp [TL])
      refine poolL_live_in pb g _ cap j _ w hj h.c1 ?_
      rw [show TL.sz + 1 = 4 from rfl] at hc
      rw [hc, hs]
      cases s.cells[j] <;> simp [PT.cell, TL]
    · have hs : s.cells[j]? = none := by rw [List.getElem?_eq_none]; omega
      rw [hs]
      obtain ⟨a, cap, rfl, h1, h2⟩ := h.cells.slice_
      exact poolL_live_out pb a _ cap j w (by omega) h.c1
set_option maxHeartbeats 400000 in
theorem poolL_room (pb mb : Nat) (cv fv : Value) (s : PS VL) (n : Int) (w : World) (h : PoolIn TL w pb mb cv fv s) :
    Calls Try.prog 140 #[.pointer (some ⟨pb, 0, none⟩), .int .i64 n] w fun e w' => e = .returned (.bool (decide (n ≤ (s.limit : Int) - s.live))) ∧ Mod [] w w' := by
  have h3 := h.c3
  have h4 := h.c4
  have b1 := h.wf.lim
  have b2 := h.wf.live_le
  clear h
  go_enter Try.func140, Try.ntmps140
  go_wp2
  go_quiet (fail)
  go_wp2
  go_ret
  exact ⟨rfl, (Mod.refl _ w).drewN _⟩
set_option maxHeartbeats 400000 in
theorem poolL_peek_no (pb mb : Nat) (cv fv : Value) (s : PS VL) (i : Int) (w : World) (h : PoolIn TL w pb mb cv fv s) (hg : s.get i = none) :
    Calls Try.prog 108 #[.pointer (some ⟨pb, 0, none⟩), .int .i64 i] w fun e w' => e = .returned (.tuple #[.agg #[.int .u64 0, .int .i64 0, .int .i64 0], .bool false]) ∧ Mod [] w w' := by
  have hl := fun W (hW : Mod [] w W) => poolL_live pb mb cv fv s i W (h.mod hW (by simp))
  rw [hg] at hl
  simp only [Option.isSome_none] at hl
  clear hg h
  go_enter Try.func108, Try.ntmps108
  go_wp2_with fail
  refine (hl _ ((Mod.refl _ _).alloc _)).mono ?_; clear hl; rintro e w' ⟨rfl, rfl⟩
  go_wp2_with fail
  refine bodyPost_ret (v := .tuple #[.agg #[.int .u64 0, .int .i64 0, .int .i64 0], .bool false]) (by simp [results, Try.results108, go_sem]) rfl ⟨rfl, ?_⟩
  exact ((Mod.refl _ w).alloc _).alloc _
set_option maxHeartbeats 400000 in
theorem poolL_peek_yes (pb mb : Nat) (cv fv : Value) (s : PS VL) (i : Int) (v : VL) (w : World) (h : PoolIn TL w pb mb cv fv s) (hg : s.get i = some v) :
    Calls Try.prog 108 #[.pointer (some ⟨pb, 0, none⟩), .int .i64 i] w fun e w' => e = .returned (.tuple #[.agg #[.int .u64 v.1, .int .i64 v.2.1, .int .i64 v.2.2], .bool true]) ∧ Mod [] w w' := by
  have hl := fun W (hW : Mod [] w W) => poolL_live pb mb cv fv s i W (h.mod hW (by simp))
  rw [hg] at hl
  simp only [Option.isSome_some] at hl
  obtain ⟨h0, hs⟩ := PS.get_some hg
  obtain ⟨j, rfl⟩ : ∃ j : Nat, i = j := ⟨i.toNat, by omega⟩
  simp only [Int.toNat_natCast] at hs
  have hj : j < s.cells.length := (List.getElem?_eq_some_iff.1 hs).1
  obtain ⟨g, cap, rfl, h1, h2, h3, h4, h5, h6, h7⟩ := h.at_ (by omega)
  have hc0 := h6 j 0 _ hs (by simp [TL])
  rw [show TL.sz + 1 = 4 from rfl] at hc0
  simp only [PT.cell, TL, List.cons_append, List.nil_append, List.singleton_append, Nat.add_zero, List.getElem?_cons_zero, List.getElem?_cons_succ] at hc0
  have hc1 := h6 j 1 _ hs (by simp [TL])
  rw [show TL.sz + 1 = 4 from rfl] at hc1
  simp only [PT.cell, TL, List.cons_append, List.nil_append, List.singleton_append, Nat.add_zero, List.getElem?_cons_zero, List.getElem?_cons_succ] at hc1
  have hc2 := h6 j 2 _ hs (by simp [TL])
  rw [show TL.sz + 1 = 4 from rfl] at hc2
  simp only [PT.cell, TL, List.cons_append, List.nil_append, List.singleton_append, Nat.add_zero, List.getElem?_cons_zero, List.getElem?_cons_succ] at hc2
  have c1 := h.c1
  have hplt := h.blk.lt
  obtain ⟨ke, pr, ne⟩ := v
  simp only at hc0 hc1 hc2 ⊢
  clear hg h h6 hs h1
  go_enter Try.func108, Try.ntmps108
  go_wp2_with fail
  refine (hl _ ((Mod.refl _ _).alloc _)).mono ?_; clear hl; rintro e w' ⟨rfl, rfl⟩
  go_wp2_with fail
  refine bodyPost_ret (v := .tuple #[.agg #[.int .u64 ke, .int .i64 pr, .int .i64 ne], .bool true]) (by simp [results, Try.results108, go_sem]) rfl ⟨rfl, ?_⟩
  exact ((Mod.refl _ w).alloc _)

set_option maxRecDepth 100000 in
set_option maxHeartbeats 1000000 in
theorem poolL_at_yes (pb mb : Nat) (cv fv : Value) (s : PS VL) (m : Mt) (i : Int) (v : VL) (w : World) (h : PoolIn TL w pb mb cv fv s) (hm : MeterAt w mb m) (hg : s.get i = some v) :
    Calls Try.prog 126 #[.pointer (some ⟨pb, 0, none⟩), .int .i64 i] w fun e w' => e = .returned (.tuple #[.agg #[.int .u64 v.1, .int .i64 v.2.1, .int .i64 v.2.2], .bool true]) ∧ MeterAt w' mb m.read ∧ Mod [mb] w w' := by
  have hp := fun W (hW : Mod [] w W) => poolL_peek_yes pb mb cv fv s i v W (h.mod hW (by simp)) hg
  have H := Hidden.mk (And.intro h hm)
  have hmlt := hm.lt
  obtain ⟨ke, pr, ne⟩ := v
  simp only at hp ⊢
  clear h hm hg
  go_enter Try.func126, Try.ntmps126
  go_wp2_with fail
  refine (hp _ ((Mod.refl _ _).alloc _)).mono ?_; clear hp; rintro e w1 ⟨rfl, hm1⟩
  have hR := (Blk.new w 121 #[.int .u64 0, .int .i64 0, .int .i64 0]).mod hm1 (by simp)
  have r0 : w1.cell? ⟨w.heap.size, 0, none⟩ = some (.int .u64 0) := hR.cell 0
  have rf0 := hR.frozen 0
  have r1 : w1.cell? ⟨w.heap.size, 1, none⟩ = some (.int .i64 0) := hR.cell 1
  have rf1 := hR.frozen 1
  have r2 : w1.cell? ⟨w.heap.size, 2, none⟩ = some (.int .i64 0) := hR.cell 2
  have rf2 := hR.frozen 2
  have hm1' : Mod [] w w1 := ((Mod.refl _ w).alloc _).trans hm1 (by simp)
  have c0 : w1.cell? ⟨pb, 0, none⟩ = some (.pointer (some ⟨mb, 0, none⟩)) := (H.out.1.mod hm1' (by simp)).c0
  have hplt := (H.out.1.mod hm1' (by simp)).blk.lt
  have hRlt := hR.lt
  have HR := Hidden.mk (And.intro hR hm1')
  clear hm1 hm1' hR
  go_wp2_with fail
  refine (meter_read mb m _ (H.out.2.mod (HR.out.2.alloc _) (by simp))).mono ?_; rintro e w2 ⟨rfl, hM, hm2⟩
  have hR2 := (HR.out.1.alloc _).mod hm2 (by simp; omega)
  have hT2 := (Blk.new w1 121 #[.int .u64 ke, .int .i64 pr, .int .i64 ne]).mod hm2 (by simp; omega)
  have hR2lt := hR2.lt
  have hT2lt := hT2.lt
  have u0 : w2.cell? ⟨w.heap.size, 0, none⟩ = some (.int .u64 0) := hR2.cell 0
  have uf0 := hR2.frozen 0
  have u1 : w2.cell? ⟨w.heap.size, 1, none⟩ = some (.int .i64 0) := hR2.cell 1
  have uf1 := hR2.frozen 1
  have u2 : w2.cell? ⟨w.heap.size, 2, none⟩ = some (.int .i64 0) := hR2.cell 2
  have uf2 := hR2.frozen 2
  have t0 : w2.cell? ⟨w1.heap.size, 0, none⟩ = some (.int .u64 ke) := hT2.cell 0
  have tf0 := hT2.frozen 0
  have t1 : w2.cell? ⟨w1.heap.size, 1, none⟩ = some (.int .i64 pr) := hT2.cell 1
  have tf1 := hT2.frozen 1
  have t2 : w2.cell? ⟨w1.heap.size, 2, none⟩ = some (.int .i64 ne) := hT2.cell 2
  have tf2 := hT2.frozen 2
  have hne : w.heap.size ≠ w1.heap.size := by omega
  have HM := Hidden.mk (And.intro hM hm2)
  clear hR2 hT2 hM hm2
  go_wp2_with fail
  refine bodyPost_ret (v := .tuple #[.agg #[.int .u64 ke, .int .i64 pr, .int .i64 ne], .bool true]) (by simp [results, Try.results126, go_sem, u0, u1, u2]) rfl ⟨rfl, ?_, ?_⟩
  · refine HM.out.1.mod (S := [w.heap.size]) ?_ (by simp; omega)
    repeat (first | ((with_reducible refine Mod.set ?_ ?_ _); rotate_left 1; (left; simp)))
    exact Mod.refl _ _
  · have := ((HR.out.2.alloc (.cells #[.int .u64 ke, .int .i64 pr, .int .i64 ne] 121)).mono (T := [mb]) (by simp)).trans HM.out.2 (by simp)
    repeat (first | ((with_reducible refine Mod.set ?_ ?_ _); rotate_left 1; (right; simp)))
    exact this
set_option maxRecDepth 100000 in
set_option maxHeartbeats 1000000 in
theorem poolL_at_no (pb mb : Nat) (cv fv : Value) (s : PS VL) (i : Int) (w : World) (h : PoolIn TL w pb mb cv fv s) (hg : s.get i = none) :
    Calls Try.prog 126 #[.pointer (some ⟨pb, 0, none⟩), .int .i64 i] w fun e w' => e = .returned (.tuple #[.agg #[.int .u64 0, .int .i64 0, .int .i64 0], .bool false]) ∧ Mod [] w w' := by
  have hp := fun W (hW : Mod [] w W) => poolL_peek_no pb mb cv fv s i W (h.mod hW (by simp)) hg
  clear h hg
  go_enter Try.func126, Try.ntmps126
  go_wp2_with fail
  refine (hp _ ((Mod.refl _ _).alloc _)).mono ?_; clear hp; rintro e w1 ⟨rfl, hm1⟩
  have hR := (Blk.new w 121 #[.int .u64 0, .int .i64 0, .int .i64 0]).mod hm1 (by simp)
  have r0 : w1.cell? ⟨w.heap.size, 0, none⟩ = some (.int .u64 0) := hR.cell 0
  have rf0 := hR.frozen 0
  have r1 : w1.cell? ⟨w.heap.size, 1, none⟩ = some (.int .i64 0) := hR.cell 1
  have rf1 := hR.frozen 1
  have r2 : w1.cell? ⟨w.heap.size, 2, none⟩ = some (.int .i64 0) := hR.cell 2
  have rf2 := hR.frozen 2
  have hm1' : Mod [] w w1 := ((Mod.refl _ w).alloc _).trans hm1 (by simp)
  have hRlt := hR.lt
  have HR := Hidden.mk (And.intro hR hm1')
  clear hm1 hm1' hR
  go_wp2_with fail
  refine bodyPost_ret (v := .tuple #[.agg #[.int .u64 0, .int .i64 0, .int .i64 0], .bool false]) (by simp [results, Try.results126, go_sem, hRlt, r0, r1, r2]) rfl ⟨rfl, ?_⟩
  have := HR.out.2
  repeat (first | with_reducible refine Mod.alloc ?_ _ | ((with_reducible refine Mod.set ?_ ?_ _); rotate_left 1; (right; simp)))
  exact this
set_option maxRecDepth 100000 in
set_option maxHeartbeats 1000000 in
theorem poolL_put_yes (pb mb : Nat) (cv fv : Value) (s : PS VL) (i : Int) (v u : VL) (w : World) (h : PoolIn TL w pb mb cv fv s) (hg : s.get i = some u) :
    Calls Try.prog 141 #[.pointer (some ⟨pb, 0, none⟩), .int .i64 i, .agg #[.int .u64 v.1, .int .i64 v.2.1, .int .i64 v.2.2]] w fun e w' => e = .returned (.bool true) ∧ PoolIn TL w' pb mb cv fv (s.put i.toNat v) ∧ Mod (pb :: (rb cv ++ rb fv)) w w' := by
  have hl := fun W (hW : Mod [] w W) => poolL_live pb mb cv fv s i W (h.mod hW (by simp))
  rw [hg] at hl
  simp only [Option.isSome_some] at hl
  obtain ⟨h0, hs⟩ := PS.get_some hg
  obtain ⟨j, rfl⟩ : ∃ j : Nat, i = j := ⟨i.toNat, by omega⟩
  simp only [Int.toNat_natCast] at hs ⊢
  have hj : j < s.cells.length := (List.getElem?_eq_some_iff.1 hs).1
  obtain ⟨g, cap, rfl, h1, h2, h3, h4, h5, h6, h7⟩ := h.at_ (by omega)
  have hc0 := h6 j 0 _ hs (by simp [TL])
  rw [show TL.sz + 1 = 4 from rfl] at hc0
  simp only [PT.cell, TL, List.cons_append, List.nil_append, List.singleton_append, Nat.add_zero, List.getElem?_cons_zero, List.getElem?_cons_succ] at hc0
  have hc1 := h6 j 1 _ hs (by simp [TL])
  rw [show TL.sz + 1 = 4 from rfl] at hc1
  simp only [PT.cell, TL, List.cons_append, List.nil_append, List.singleton_append, Nat.add_zero, List.getElem?_cons_zero, List.getElem?_cons_succ] at hc1
  have hc2 := h6 j 2 _ hs (by simp [TL])
  rw [show TL.sz + 1 = 4 from rfl] at hc2
  simp only [PT.cell, TL, List.cons_append, List.nil_append, List.singleton_append, Nat.add_zero, List.getElem?_cons_zero, List.getElem?_cons_succ] at hc2
  have c1 := h.c1
  have hplt := h.blk.lt
  have fg0 := h7 (j * 4)
  have fg1 := h7 (j * 4 + 1)
  have fg2 := h7 (j * 4 + 2)
  have hl2 : (TL.row s).length = s.cells.length * 4 := flat_len TL.cell 4 TL.cell_len s.cells
  have hb : (j + 1) * 4 ≤ s.cells.length * 4 := Nat.mul_le_mul_right _ hj
  have hgf : g ∉ rb fv := fun hk => by have := h.free.ty2 h.cells (e' := TL.tc) TL.n3 g (by simp [rb, Value.ownBlock]); exact this hk
  have H := Hidden.mk h
  have HS := Hidden.mk hs
  obtain ⟨ke, pr, ne⟩ := v
  obtain ⟨oke, opr, one⟩ := u
  simp only at hc0 hc1 hc2 ⊢
  have e : Hidden (TL.row (s.put j (ke, pr, ne)) = ((((TL.row s).set (j * 4) (.int .u64 ke)).set (j * 4 + 1) (.int .i64 pr)).set (j * 4 + 2) (.int .i64 ne))) := ⟨by
    have h3 := setAll_eq (TL.row s) (j * 4) [.int .u64 ke, .int .i64 pr, .int .i64 ne] (by simp; omega)
    have h4 : ((((TL.row s).set (j * 4) (.int .u64 ke)).set (j * 4 + 1) (.int .i64 pr)).set (j * 4 + 2) (.int .i64 ne)) = setAll (TL.row s) (j * 4) [.int .u64 ke, .int .i64 pr, .int .i64 ne] := rfl
    have hx : (TL.row s)[j * 4 + 3]? = some (.bool true) := by
      rw [PT.row, flat_get TL.cell 4 TL.cell_len _ _ _ (by omega), hs]; rfl
    rw [h4, h3, PT.row, PS.put, flat_put TL.cell 4 TL.cell_len _ _ hj]
    rw [show j * 4 + 4 = j * 4 + 3 + 1 from rfl, ← List.tail_drop]
    have hd : (s.cells.flatMap TL.cell).drop (j * 4 + 3) = .bool true :: ((s.cells.flatMap TL.cell).drop (j * 4 + 3)).tail := by
      cases hq : (s.cells.flatMap TL.cell).drop (j * 4 + 3) with
      | nil => rw [List.drop_eq_nil_iff] at hq; rw [PT.row] at hl2; omega
      | cons a l => have := congrArg List.head? hq; rw [List.head?_drop] at this; rw [PT.row] at hx; rw [hx] at this; simp at this; rw [← this]; rfl
    show _ = List.take (j * 4) (s.cells.flatMap TL.cell) ++ [.int .u64 ke, .int .i64 pr, .int .i64 ne] ++ List.drop (j * 4 + 3) (s.cells.flatMap TL.cell)
    conv => rhs; rw [hd]
    simp [PT.cell, TL]⟩
  clear hg h h6 hs h1 h7 hl2
  go_enter Try.func141, Try.ntmps141
  go_wp2_with fail
  refine (hl _ ((Mod.refl _ _).alloc _)).mono ?_; clear hl; rintro e w' ⟨rfl, rfl⟩
  go_wp2_with fail
  refine wp_tail 8 (by kernel_rfl) (by kernel_rfl) ?_
  simp only [List.take_succ_cons, List.take_zero, List.drop_succ_cons, List.drop_zero]
  repeat still_step
  refine wpStill_nil ?_
  go_wp2
  go_ret
  have h := H.out
  refine ⟨rfl, ⟨?_, ?_, ?_, PS.put_wf h.wf HS.out⟩, ?_⟩
  · rw [PS.put_live HS.out]
    repeat (first | with_reducible refine Blk.drew ?_ | with_reducible refine Blk.drewN ?_ _ | with_reducible refine Blk.alloc ?_ _ | with_reducible refine Blk.far ?_ (Ne.symm h5) _)
    exact h.blk
  · have hlen : (s.put j (ke, pr, ne)).cells.length = s.cells.length := by simp [PS.put]
    rw [hlen, e.out]
    repeat (first | with_reducible refine Row.drew ?_ | with_reducible refine Row.drewN ?_ _ | with_reducible refine Row.alloc ?_ _ | with_reducible refine Row.stored ?_ _ _)
    exact h.cells
  · repeat (first | with_reducible refine Row.drew ?_ | with_reducible refine Row.drewN ?_ _ | with_reducible refine Row.alloc ?_ _ | with_reducible refine Row.far ?_ hgf _)
    exact h.free
  · repeat (first | with_reducible refine Mod.drew ?_ | with_reducible refine Mod.drewN ?_ _ | with_reducible refine Mod.alloc ?_ _ | ((with_reducible refine Mod.set ?_ ?_ _); rotate_left 1; (left; simp [rb, Value.ownBlock])))
    exact Mod.refl _ _
set_option maxHeartbeats 400000 in
theorem poolL_len (pb mb : Nat) (cv fv : Value) (s : PS VL) (w : World) (h : PoolIn TL w pb mb cv fv s) :
    Calls Try.prog 121 #[.pointer (some ⟨pb, 0, none⟩)] w fun e w' => e = .returned (.int .i64 s.live) ∧ w = w' := by
  have c3 := h.c3
  clear h
  go_enter Try.func121, Try.ntmps121
  go_wp2
  go_ret
  exact ⟨rfl, rfl⟩
set_option maxHeartbeats 400000 in
theorem poolL_new_bad (m : Value) (limit : Int) (w : World) (hl : limit < 0 ∨ 1048576 < limit) :
    Calls Try.prog 95 #[m, .int .i64 limit] w fun e w' => e = .returned (.tuple #[.pointer none, .int .i64 1]) ∧ w = w' := by
  rcases hl with hl | hl
  · go_enter Try.func95, Try.ntmps95
    go_wp2
    go_ret2
    exact ⟨rfl, rfl⟩
  · have : ¬ limit < 0 := by omega
    go_enter Try.func95, Try.ntmps95
    go_wp2
    go_ret2
    exact ⟨rfl, rfl⟩
theorem poolLIn_new (w : World) (mb : Nat) (limit : Nat) (hl : limit ≤ 1048576) :
    PoolIn TL (w.alloc (.cells (poolCells mb (.slice none 0 0) (.slice none 0 0) 0 limit) TL.tp)) w.heap.size mb (.slice none 0 0) (.slice none 0 0) (PS.empty limit) :=
  ⟨Blk.new w _ _, Row.nil_ _ _ _, Row.nil_ _ _ _, PS.empty_wf _ hl⟩
set_option maxHeartbeats 400000 in
theorem poolL_new (mb : Nat) (limit : Nat) (w : World) (hl : limit ≤ 1048576) :
    Calls Try.prog 95 #[.pointer (some ⟨mb, 0, none⟩), .int .i64 limit] w fun e w' => e = .returned (.tuple #[.pointer (some ⟨w.heap.size, 0, none⟩), .int .i64 0]) ∧
      PoolIn TL w' w.heap.size mb (.slice none 0 0) (.slice none 0 0) (PS.empty limit) ∧ Mod [] w w' := by
  have key := poolLIn_new w mb limit hl
  go_enter Try.func95, Try.ntmps95
  go_wp2
  go_ret2
  exact ⟨rfl, key, (Mod.refl _ w).alloc _⟩
set_option maxHeartbeats 400000 in
theorem poolL_new_nil (limit : Nat) (w : World) (hl : limit ≤ 1048576) :
    Calls Try.prog 95 #[.pointer none, .int .i64 limit] w fun e w' => e = .returned (.tuple #[.pointer (some ⟨w.heap.size + 1, 0, none⟩), .int .i64 0]) ∧
      PoolIn TL w' (w.heap.size + 1) w.heap.size (.slice none 0 0) (.slice none 0 0) (PS.empty limit) ∧ MeterAt w' w.heap.size Mt.zero ∧ Mod [] w w' := by
  have key := poolLIn_new (w.alloc (.cells (mtCells Mt.zero) 115)) w.heap.size limit hl
  have km := (MeterAt.new w).mod (((Mod.refl [] (w.alloc (.cells (mtCells Mt.zero) 115))).alloc (.cells (poolCells w.heap.size (.slice none 0 0) (.slice none 0 0) 0 limit) TL.tp))) (by simp)
  have km2 : Mod [] w ((w.alloc (.cells (mtCells Mt.zero) 115)).alloc (.cells (poolCells w.heap.size (.slice none 0 0) (.slice none 0 0) 0 limit) TL.tp)) := ((Mod.refl _ w).alloc _).alloc _
  simp only [World.size_alloc] at key
  go_enter Try.func95, Try.ntmps95
  go_wp2_with (go_at_call 52; refine (meter_new _).mono ?_; rintro e w' ⟨rfl, rfl⟩)
  go_ret2
  exact ⟨rfl, key, km, km2⟩
end Go.Proofs.Ytfioekkegihkoaa
