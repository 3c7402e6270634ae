/- The pool of uint64: what each of its calls does. -/
import Derived.Test.YtnbanbfnabhjjaaPoolM
namespace Go.Proofs.Ytnbanbfnabhjjaa
open Go.RowKit

def TU : PT Int := { tp := 56, tc := 115, sz := 1, enc := fun v => [.int .u64 v], zero := 0, len := fun _ => rfl, one := by simp [Value.oneCell'], n1 := by decide, n2 := by decide, n3 := by decide }

set_option maxHeartbeats 400000 in
theorem poolU_live_nil (i : Int) (w : World) :
    Calls Try.prog 28 #[.pointer none, .int .i64 i] w fun e w' => e = .returned (.bool false) ∧ w = w' := by
  go_enter Try.func28, Try.ntmps28
  go_wp2
  go_ret
  exact ⟨rfl, rfl⟩
set_option maxHeartbeats 400000 in
theorem poolU_live_neg (pb : Nat) (i : Int) (w : World) (hi : i < 0) :
    Calls Try.prog 28 #[.pointer (some ⟨pb, 0, none⟩), .int .i64 i] w fun e w' => e = .returned (.bool false) ∧ w = w' := by
  go_enter Try.func28, Try.ntmps28
  go_wp2
  go_ret
  exact ⟨rfl, rfl⟩
set_option maxHeartbeats 400000 in
theorem poolU_live_out (pb : Nat) (a : Option Addr) (n c i : Nat) (w : World) (hn : n ≤ i) (h1 : w.cell? ⟨pb, 1, none⟩ = some (.slice a n c)) :
    Calls Try.prog 28 #[.pointer (some ⟨pb, 0, none⟩), .int .i64 i] w fun e w' => e = .returned (.bool false) ∧ w = w' := by
  go_enter Try.func28, Try.ntmps28
  go_wp2
  go_ret
  exact ⟨rfl, rfl⟩
set_option maxHeartbeats 400000 in
theorem poolU_live_in (pb cb : Nat) (n c i : Nat) (b : Bool) (w : World) (hn : i < n) (h1 : w.cell? ⟨pb, 1, none⟩ = some (.slice (some ⟨cb, 0, none⟩) n c))
    (h2 : w.cell? ⟨cb, i * 2 + 1, none⟩ = some (.bool b)) :
    Calls Try.prog 28 #[.pointer (some ⟨pb, 0, none⟩), .int .i64 i] w fun e w' => e = .returned (.bool b) ∧ w = w' := by
  go_enter Try.func28, Try.ntmps28
  go_wp2
  go_ret
  exact ⟨rfl, rfl⟩
theorem poolU_live (pb mb : Nat) (cv fv : Value) (s : PS Int) (i : Int) (w : World) (h : PoolIn TU w pb mb cv fv s) :
    Calls Try.prog 28 #[.pointer (some ⟨pb, 0, none⟩), .int .i64 i] w fun e w' => e = .returned (.bool (s.get i).isSome) ∧ w = w' := by
  by_cases hi : i < 0
  · have : s.get i = none := by simp [PS.get, hi]
    rw [this]; exact poolU_live_neg pb i w hi
  · obtain ⟨j, rfl⟩ : ∃ j : Nat, i = j := ⟨i.toNat, by omega⟩
    have hg : s.get (j : Int) = (s.cells[j]?).join := by simp [PS.get, hi]
    rw [hg]
    by_cases hj : j < s.cells.length
    · obtain ⟨g, cap, rfl, h1, h2, h3, h4, h5, h6, h7⟩ := h.at_ (by omega)
      have hs : s.cells[j]? = some s.cells[j] := List.getElem?_eq_getElem hj
      have hc := h6 j 1 _ hs (by simp [TU])
      refine poolU_live_in pb g _ cap j _ w hj h.c1 ?_
      rw [show TU.sz + 1 = 2 from rfl] at hc
      rw [hc, hs]
      cases s.cells[j] <;> simp [PT.cell, TU]
    · have hs : s.cells[j]? = none := by rw [List.getElem?_eq_none]; omega
      rw [hs]
      obtain ⟨a, cap, rfl, h1, h2⟩ := h.cells.slice_
      exact poolU_live_out pb a _ cap j w (by omega) h.c1

set_option maxHeartbeats 400000 in
theorem poolU_room_nil (n : Int) (w : World) :
    Calls Try.prog 20 #[.pointer none, .int .i64 n] w fun e w' => e = .returned (.bool false) ∧ Mod [] w w' := by
  go_enter Try.func20, Try.ntmps20
  go_wp2
  go_quiet (fail)
  go_wp2
  go_ret
  exact ⟨rfl, (Mod.refl _ w).drewN _⟩
set_option maxHeartbeats 400000 in
theorem poolU_room (pb mb : Nat) (cv fv : Value) (s : PS Int) (n : Int) (w : World) (h : PoolIn TU w pb mb cv fv s) :
    Calls Try.prog 20 #[.pointer (some ⟨pb, 0, none⟩), .int .i64 n] w fun e w' => e = .returned (.bool (decide (n ≤ (s.limit : Int) - s.live))) ∧ Mod [] w w' := by
  have h3 := h.c3
  have h4 := h.c4
  have b1 := h.wf.lim
  have b2 := h.wf.live_le
  clear h
  go_enter Try.func20, Try.ntmps20
  go_wp2
  go_quiet (fail)
  go_wp2
  go_ret
  exact ⟨rfl, (Mod.refl _ w).drewN _⟩

set_option maxHeartbeats 400000 in
theorem poolU_peek_nil (i : Int) (w : World) :
    Calls Try.prog 24 #[.pointer none, .int .i64 i] w fun e w' => e = .returned (.tuple #[.int .u64 0, .bool false]) ∧ w = w' := by
  go_enter Try.func24, Try.ntmps24
  go_wp2_with (go_at_call 28; refine (poolU_live_nil _ _).mono ?_; rintro e w' ⟨rfl, rfl⟩)
  go_ret2
  exact ⟨rfl, rfl⟩
set_option maxHeartbeats 400000 in
theorem poolU_peek (pb mb : Nat) (cv fv : Value) (s : PS Int) (i : Int) (w : World) (h : PoolIn TU w pb mb cv fv s) :
    Calls Try.prog 24 #[.pointer (some ⟨pb, 0, none⟩), .int .i64 i] w fun e w' => e = .returned (.tuple #[.int .u64 ((s.get i).getD 0), .bool (s.get i).isSome]) ∧ w = w' := by
  have hl := poolU_live pb mb cv fv s i w h
  cases hg : s.get i with
  | none =>
    rw [hg] at hl
    simp only [Option.getD_none, Option.isSome_none] at hl ⊢
    clear hg h
    go_enter Try.func24, Try.ntmps24
    go_wp2_with (go_at_call 28; refine hl.mono ?_; clear hl; rintro e w' ⟨rfl, rfl⟩)
    go_ret2
    exact ⟨rfl, rfl⟩
  | some v =>
    rw [hg] at hl
    simp only [Option.getD_some, Option.isSome_some] at hl ⊢
    obtain ⟨h0, hs⟩ := PS.get_some hg
    obtain ⟨j, rfl⟩ : ∃ j : Nat, i = j := ⟨i.toNat, by omega⟩
    simp only [Int.toNat_natCast] at hs
    have hj : j < s.cells.length := (List.getElem?_eq_some_iff.1 hs).1
    obtain ⟨g, cap, rfl, h1, h2, h3, h4, h5, h6, h7⟩ := h.at_ (by omega)
    have hc := h6 j 0 _ hs (by simp [TU])
    rw [show TU.sz + 1 = 2 from rfl] at hc
    simp only [PT.cell, TU, List.singleton_append, Nat.add_zero, List.getElem?_cons_zero] at hc
    have c1 := h.c1
    clear hg h h6 hs h1
    go_enter Try.func24, Try.ntmps24
    go_wp2_with (go_at_call 28; refine hl.mono ?_; clear hl; rintro e w' ⟨rfl, rfl⟩)
    go_ret2
    exact ⟨rfl, rfl⟩

set_option maxHeartbeats 400000 in
theorem poolU_at_nil (i : Int) (w : World) :
    Calls Try.prog 23 #[.pointer none, .int .i64 i] w fun e w' => e = .returned (.tuple #[.int .u64 0, .bool false]) ∧ w = w' := by
  go_enter Try.func23, Try.ntmps23
  go_wp2_with (go_at_call 24; refine (poolU_peek_nil _ _).mono ?_; rintro e w' ⟨rfl, rfl⟩)
  go_ret2
  exact ⟨rfl, rfl⟩
set_option maxHeartbeats 400000 in
theorem poolU_at (pb mb : Nat) (cv fv : Value) (s : PS Int) (m : Mt) (i : Int) (w : World) (h : PoolIn TU w pb mb cv fv s) (hm : MeterAt w mb m) :
    Calls Try.prog 23 #[.pointer (some ⟨pb, 0, none⟩), .int .i64 i] w fun e w' => e = .returned (.tuple #[.int .u64 ((s.get i).getD 0), .bool (s.get i).isSome]) ∧
      MeterAt w' mb (if (s.get i).isSome then m.read else m) ∧ Mod [mb] w w' := by
  have hl := poolU_peek pb mb cv fv s i w h
  have c0 := h.c0
  have hr := meter_read mb m w hm
  generalize (s.get i).getD 0 = v at hl ⊢
  cases hg : (s.get i).isSome with
  | false =>
    rw [hg] at hl
    clear hg h hr
    go_enter Try.func23, Try.ntmps23
    go_wp2_with (go_at_call 24; refine hl.mono ?_; clear hl; rintro e w' ⟨rfl, rfl⟩)
    go_ret2
    exact ⟨rfl, hm, Mod.refl _ _⟩
  | true =>
    rw [hg] at hl
    clear hg h hm
    go_enter Try.func23, Try.ntmps23
    go_wp2_with (first | (go_at_call 24; refine hl.mono ?_; clear hl; rintro e w' ⟨rfl, rfl⟩) | (go_at_call 78; refine hr.mono ?_; clear hr; rintro e w' ⟨rfl, h1, h2⟩))
    go_ret2
    exact ⟨rfl, h1, h2⟩

set_option maxHeartbeats 400000 in
theorem poolU_put_nil (i v : Int) (w : World) :
    Calls Try.prog 27 #[.pointer none, .int .i64 i, .int .u64 v] w fun e w' => e = .returned (.bool false) ∧ w = w' := by
  go_enter Try.func27, Try.ntmps27
  go_wp2_with (go_at_call 28; refine (poolU_live_nil _ _).mono ?_; rintro e w' ⟨rfl, rfl⟩)
  go_ret
  exact ⟨rfl, rfl⟩
set_option maxHeartbeats 400000 in
theorem poolU_put_no (pb mb : Nat) (cv fv : Value) (s : PS Int) (i v : Int) (w : World) (h : PoolIn TU w pb mb cv fv s) (hg : s.get i = none) :
    Calls Try.prog 27 #[.pointer (some ⟨pb, 0, none⟩), .int .i64 i, .int .u64 v] w fun e w' => e = .returned (.bool false) ∧ w = w' := by
  have hl := poolU_live pb mb cv fv s i w h
  rw [hg] at hl
  clear hg h
  go_enter Try.func27, Try.ntmps27
  go_wp2_with (go_at_call 28; refine hl.mono ?_; clear hl; rintro e w' ⟨rfl, rfl⟩)
  go_ret
  exact ⟨rfl, rfl⟩
set_option maxHeartbeats 400000 in
theorem poolU_put_yes (pb mb : Nat) (cv fv : Value) (s : PS Int) (i v u : Int) (w : World) (h : PoolIn TU w pb mb cv fv s) (hg : s.get i = some u) :
    Calls Try.prog 27 #[.pointer (some ⟨pb, 0, none⟩), .int .i64 i, .int .u64 v] w fun e w' => e = .returned (.bool true) ∧ PoolIn TU w' pb mb cv fv (s.put i.toNat v) ∧ Mod (pb :: (rb cv ++ rb fv)) w w' := by
  have hl := poolU_live pb mb cv fv s i w h
  rw [hg] at hl
  obtain ⟨h0, hs⟩ := PS.get_some hg
  obtain ⟨j, rfl⟩ : ∃ j : Nat, i = j := ⟨i.toNat, by omega⟩
  simp only [Int.toNat_natCast] at hs ⊢
  have hj : j < s.cells.length := (List.getElem?_eq_some_iff.1 hs).1
  obtain ⟨g, cap, rfl, h1, h2, h3, h4, h5, h6, h7⟩ := h.at_ (by omega)
  have hc := h6 j 0 _ hs (by simp [TU])
  rw [show TU.sz + 1 = 2 from rfl] at hc
  simp only [PT.cell, TU, List.singleton_append, Nat.add_zero, List.getElem?_cons_zero] at hc
  have c1 := h.c1
  have f0 := h7 (j * 2)
  have post : PoolIn TU (w.setCell ⟨g, j * 2, none⟩ (.int .u64 v)) pb mb (.slice (some ⟨g, 0, none⟩) s.cells.length cap) fv (s.put j v) ∧ Mod (pb :: (rb (.slice (some ⟨g, 0, none⟩) s.cells.length cap) ++ rb fv)) w (w.setCell ⟨g, j * 2, none⟩ (.int .u64 v)) := by
    refine ⟨⟨?_, ?_, ?_, PS.put_wf h.wf hs⟩, (Mod.refl _ w).set (.inl (by simp [rb, Value.ownBlock])) _⟩
    · rw [PS.put_live hs]; exact h.blk.far (Ne.symm h5) _
    · have hr := Row.stored h.cells (j * 2) (.int .u64 v)
      have hlen : (s.put j v).cells.length = s.cells.length := by simp [PS.put]
      rw [hlen]
      have e : TU.row (s.put j v) = (TU.row s).set (j * 2) (.int .u64 v) := by
        have hl2 := flat_len TU.cell 2 TU.cell_len s.cells
        have hb : (j + 1) * 2 ≤ s.cells.length * 2 := Nat.mul_le_mul_right _ hj
        rw [PT.row, PS.put, flat_put TU.cell 2 TU.cell_len _ _ hj]
        have hx : (TU.row s)[j * 2 + 1]? = some (.bool true) := by
          rw [PT.row, flat_get TU.cell 2 TU.cell_len _ _ _ (by omega), hs]; rfl
        have := set2_eq (TU.row s) (j * 2) (.int .u64 v) (.bool true) (by rw [PT.row, hl2]; omega)
        have hself : (((TU.row s).set (j * 2) (.int .u64 v)).set (j * 2 + 1) (.bool true)) = (TU.row s).set (j * 2) (.int .u64 v) := by
          apply List.ext_getElem?; intro n; rw [List.getElem?_set]; split
          · rename_i e; subst e; rw [List.getElem?_set_ne (by omega), hx]; simp; rw [PT.row, hl2]; omega
          · rfl
        rw [← hself, this]; rfl
      rw [e]; exact hr
    · exact h.free.far (fun hk => by have := h.free.ty2 h.cells (e' := TU.tc) TU.n3 g (by simp [rb, Value.ownBlock]); exact this hk) _
  clear hg h h6 hs h1 h7
  go_enter Try.func27, Try.ntmps27
  go_wp2_with (go_at_call 28; refine hl.mono ?_; clear hl; rintro e w' ⟨rfl, rfl⟩)
  go_ret
  exact ⟨rfl, post⟩

set_option maxHeartbeats 400000 in
theorem poolU_len_nil (w : World) :
    Calls Try.prog 19 #[.pointer none] w fun e w' => e = .returned (.int .i64 0) ∧ w = w' := by
  go_enter Try.func19, Try.ntmps19
  go_wp2
  go_ret
  exact ⟨rfl, rfl⟩
set_option maxHeartbeats 400000 in
theorem poolU_len (pb mb : Nat) (cv fv : Value) (s : PS Int) (w : World) (h : PoolIn TU w pb mb cv fv s) :
    Calls Try.prog 19 #[.pointer (some ⟨pb, 0, none⟩)] w fun e w' => e = .returned (.int .i64 s.live) ∧ w = w' := by
  have c3 := h.c3
  clear h
  go_enter Try.func19, Try.ntmps19
  go_wp2
  go_ret
  exact ⟨rfl, rfl⟩
set_option maxHeartbeats 400000 in
theorem poolU_limit_nil (w : World) :
    Calls Try.prog 29 #[.pointer none] w fun e w' => e = .returned (.int .i64 0) ∧ w = w' := by
  go_enter Try.func29, Try.ntmps29
  go_wp2
  go_ret
  exact ⟨rfl, rfl⟩
set_option maxHeartbeats 400000 in
theorem poolU_limit (pb mb : Nat) (cv fv : Value) (s : PS Int) (w : World) (h : PoolIn TU w pb mb cv fv s) :
    Calls Try.prog 29 #[.pointer (some ⟨pb, 0, none⟩)] w fun e w' => e = .returned (.int .i64 s.limit) ∧ w = w' := by
  have c3 := h.c4
  clear h
  go_enter Try.func29, Try.ntmps29
  go_wp2
  go_ret
  exact ⟨rfl, rfl⟩

set_option maxHeartbeats 400000 in
theorem poolU_new_bad (m : Value) (limit : Int) (w : World) (hl : limit < 0 ∨ 1048576 < limit) :
    Calls Try.prog 17 #[m, .int .i64 limit] w fun e w' => e = .returned (.tuple #[.pointer none, .int .i64 1]) ∧ w = w' := by
  rcases hl with hl | hl
  · go_enter Try.func17, Try.ntmps17
    go_wp2
    go_ret2
    exact ⟨rfl, rfl⟩
  · have : ¬ limit < 0 := by omega
    go_enter Try.func17, Try.ntmps17
    go_wp2
    go_ret2
    exact ⟨rfl, rfl⟩
theorem PoolIn.new_ (T : PT Int) (w : World) (mb : Nat) (limit : Nat) (hl : limit ≤ 1048576) :
    PoolIn T (w.alloc (.cells (poolCells mb (.slice none 0 0) (.slice none 0 0) 0 limit) T.tp)) w.heap.size mb (.slice none 0 0) (.slice none 0 0) (PS.empty limit) :=
  ⟨Blk.new w _ _, Row.nil_ _ _ _, Row.nil_ _ _ _, PS.empty_wf _ hl⟩
set_option maxHeartbeats 400000 in
theorem poolU_new (mb : Nat) (limit : Nat) (w : World) (hl : limit ≤ 1048576) :
    Calls Try.prog 17 #[.pointer (some ⟨mb, 0, none⟩), .int .i64 limit] w fun e w' => e = .returned (.tuple #[.pointer (some ⟨w.heap.size, 0, none⟩), .int .i64 0]) ∧
      PoolIn TU w' w.heap.size mb (.slice none 0 0) (.slice none 0 0) (PS.empty limit) ∧ Mod [] w w' := by
  have key := PoolIn.new_ TU w mb limit hl
  go_enter Try.func17, Try.ntmps17
  go_wp2
  go_ret2
  exact ⟨rfl, key, (Mod.refl _ w).alloc _⟩
set_option maxHeartbeats 400000 in
theorem poolU_new_nil (limit : Nat) (w : World) (hl : limit ≤ 1048576) :
    Calls Try.prog 17 #[.pointer none, .int .i64 limit] w fun e w' => e = .returned (.tuple #[.pointer (some ⟨w.heap.size + 1, 0, none⟩), .int .i64 0]) ∧
      PoolIn TU w' (w.heap.size + 1) w.heap.size (.slice none 0 0) (.slice none 0 0) (PS.empty limit) ∧ MeterAt w' w.heap.size Mt.zero ∧ Mod [] w w' := by
  have key := PoolIn.new_ TU (w.alloc (.cells (mtCells Mt.zero) 117)) w.heap.size limit hl
  have km := (MeterAt.new w).mod (((Mod.refl [] (w.alloc (.cells (mtCells Mt.zero) 117))).alloc (.cells (poolCells w.heap.size (.slice none 0 0) (.slice none 0 0) 0 limit) TU.tp))) (by simp)
  have km2 : Mod [] w ((w.alloc (.cells (mtCells Mt.zero) 117)).alloc (.cells (poolCells w.heap.size (.slice none 0 0) (.slice none 0 0) 0 limit) TU.tp)) := ((Mod.refl _ w).alloc _).alloc _
  simp only [World.size_alloc] at key
  go_enter Try.func17, Try.ntmps17
  go_wp2_with (go_at_call 30; refine (meter_new _).mono ?_; rintro e w' ⟨rfl, rfl⟩)
  go_ret2
  exact ⟨rfl, key, km, km2⟩

set_option maxHeartbeats 400000 in
theorem poolU_alloc_nil (v : Int) (w : World) :
    Calls Try.prog 18 #[.pointer none, .int .u64 v] w fun e w' => e = .returned (.tuple #[.int .i64 0, .bool false]) ∧ Mod [] w w' := by
  go_enter Try.func18, Try.ntmps18
  go_wp2_with (go_at_call 20; refine (poolU_room_nil _ _).mono ?_; rintro e w' ⟨rfl, hm⟩)
  go_ret2
  exact ⟨rfl, hm⟩
set_option maxHeartbeats 400000 in
theorem poolU_alloc_full (pb mb : Nat) (cv fv : Value) (s : PS Int) (v : Int) (w : World) (h : PoolIn TU w pb mb cv fv s) (hf : ¬ s.live < s.limit) :
    Calls Try.prog 18 #[.pointer (some ⟨pb, 0, none⟩), .int .u64 v] w fun e w' => e = .returned (.tuple #[.int .i64 0, .bool false]) ∧ Mod [] w w' := by
  have hr := poolU_room pb mb cv fv s 1 w h
  have hd : decide ((1 : Int) ≤ (s.limit : Int) - s.live) = false := by simp; omega
  rw [hd] at hr
  clear h hf hd
  go_enter Try.func18, Try.ntmps18
  go_wp2_with (go_at_call 20; refine hr.mono ?_; clear hr; rintro e w' ⟨rfl, hm⟩)
  go_ret2
  exact ⟨rfl, hm⟩
set_option maxRecDepth 100000 in
set_option maxHeartbeats 1000000 in
theorem poolU_alloc_re (pb mb : Nat) (cv fv : Value) (s : PS Int) (v : Int) (i : Nat) (w : World) (h : PoolIn TU w pb mb cv fv s) (hf : s.live < s.limit) (hi : s.free.getLast? = some i) :
    Calls Try.prog 18 #[.pointer (some ⟨pb, 0, none⟩), .int .u64 v] w fun e w' => e = .returned (.tuple #[.int .i64 i, .bool true]) ∧
      ∃ cv' fv', PoolIn TU w' pb mb cv' fv' (s.take v) ∧ Mod (pb :: (rb cv ++ rb fv)) w w' ∧ (∀ k ∈ rb cv' ++ rb fv', k ∈ rb cv ++ rb fv ∨ w.heap.size ≤ k) := by
  have hr := poolU_room pb mb cv fv s 1 w h
  have hd : decide ((1 : Int) ≤ (s.limit : Int) - s.live) = true := by simp; omega
  rw [hd] at hr
  clear hd
  go_enter Try.func18, Try.ntmps18
  go_wp2_with fail
  refine hr.mono ?_; clear hr; rintro e w1 ⟨rfl, hm⟩
  have h1 := h.mod hm (by simp)
  have hin : i ∈ s.free := List.mem_of_getLast? hi
  have hic := (h.wf.mem i).1 hin
  have hilt : i < s.cells.length := (List.getElem?_eq_some_iff.1 hic).1
  have hflen : 0 < s.free.length := List.length_pos_of_mem hin
  obtain ⟨fb, fcap, rfl, f1, f2, f3, f4, f5, f6⟩ := h1.free.at_ hflen
  obtain ⟨g, cap, rfl, g1, g2, g3, g4, g5, g6, g7⟩ := h1.at_ (by omega)
  have hlast : w1.cell? ⟨fb, s.free.length - 1, none⟩ = some (.int .i64 i) := by
    rw [f5 _ (by omega), List.getElem?_map]
    rw [List.getLast?_eq_getElem?] at hi
    rw [hi]; rfl
  have c1 := h1.c1
  have c2 := h1.c2
  have c3 := h1.c3
  have hpb := h1.blk.lt
  have fr := h1.blk.frozen
  have fr1 := fr 1
  have fr2 := fr 2
  have fr3 := fr 3
  have fg0 := g7 (i * 2)
  have fg1 := g7 (i * 2 + 1)
  have hd0 := g6 i 0 _ hic (by simp [TU])
  have hd1 := g6 i 1 _ hic (by simp [TU])
  rw [show TU.sz + 1 = 2 from rfl] at hd0 hd1
  simp only [PT.cell, TU, List.singleton_append, Nat.add_zero, List.getElem?_cons_zero, List.getElem?_cons_succ] at hd0 hd1
  have hfp : fb ≠ pb := by
    have := h1.free.ty h1.blk TU.n2; rw [f1] at this; simp at this; exact fun e => this e.symm
  have hfg : fb ≠ g := by
    have := h1.cells.ty2 h1.free (Ne.symm TU.n3) fb (by rw [f1]; simp); rw [g1] at this; simpa using this
  have hb1 := h1.wf.lim
  have hb2 := h1.wf.len
  have key : PoolIn TU (((((w1.setCell ⟨pb, 3, none⟩ (.int .i64 ((s.live : Int) + 1))).setCell ⟨pb, 2, none⟩ (.slice (some ⟨fb, 0, none⟩) (s.free.length - 1) fcap)).setCell ⟨g, i * 2, none⟩ (.int .u64 v)).setCell ⟨g, i * 2 + 1, none⟩ (.bool true)).alloc (.cells #[.int .u64 v, .bool true] 115)).drew pb mb
      (.slice (some ⟨g, 0, none⟩) s.cells.length cap) (.slice (some ⟨fb, 0, none⟩) (s.free.length - 1) fcap) (s.take v) := by
    have et : s.take v = { s with cells := s.cells.set i (some v), free := s.free.dropLast } := by unfold PS.take; rw [hi]
    refine ⟨?_, ?_, ?_, PS.take_wf h1.wf hf v⟩
    · rw [PS.take_live h1.wf v, et]
      exact (((((h1.blk.set 3 _).set 2 _).far (p := ⟨g, i * 2, none⟩) (Ne.symm g5) _).far (p := ⟨g, i * 2 + 1, none⟩) (Ne.symm g5) _).alloc _).drew
    · have hr := ((Row.stored (Row.stored ((h1.cells.far (p := ⟨pb, 3, none⟩) (by rw [g1]; simpa using Ne.symm g5) (.int .i64 ((s.live : Int) + 1))).far (p := ⟨pb, 2, none⟩) (by rw [g1]; simpa using Ne.symm g5) (.slice (some ⟨fb, 0, none⟩) (s.free.length - 1) fcap)) (i * 2) (.int .u64 v)) (i * 2 + 1) (.bool true)).alloc (.cells #[.int .u64 v, .bool true] 115)).drew
      have hl2 := flat_len TU.cell 2 TU.cell_len s.cells
      have hb : (i + 1) * 2 ≤ s.cells.length * 2 := Nat.mul_le_mul_right _ hilt
      rw [set2_eq _ _ _ _ (by rw [PT.row, hl2]; omega)] at hr
      rw [et, PT.row]
      simp only [List.length_set]
      rw [flat_put TU.cell 2 TU.cell_len _ _ hilt]
      exact hr
    · have hr := ((((((h1.free.cut (k := s.free.length - 1) (by omega)).far (p := ⟨pb, 3, none⟩) (by rw [show rb (.slice (some ⟨fb, 0, none⟩) (s.free.length - 1) fcap) = [fb] from rfl]; simpa using Ne.symm hfp) (.int .i64 ((s.live : Int) + 1))).far (p := ⟨pb, 2, none⟩) (by rw [show rb (.slice (some ⟨fb, 0, none⟩) (s.free.length - 1) fcap) = [fb] from rfl]; simpa using Ne.symm hfp) (.slice (some ⟨fb, 0, none⟩) (s.free.length - 1) fcap))).far (p := ⟨g, i * 2, none⟩) (by rw [show rb (.slice (some ⟨fb, 0, none⟩) (s.free.length - 1) fcap) = [fb] from rfl]; simpa using Ne.symm hfg) (.int .u64 v)).far (p := ⟨g, i * 2 + 1, none⟩) (by rw [show rb (.slice (some ⟨fb, 0, none⟩) (s.free.length - 1) fcap) = [fb] from rfl]; simpa using Ne.symm hfg) (.bool true)).alloc (.cells #[.int .u64 v, .bool true] 115)
      rw [et]
      simp only [List.length_dropLast]
      rw [Nat.mul_one, ← List.map_take, ← List.dropLast_eq_take] at hr
      exact hr.drew
  have kmod : Mod (pb :: (rb (.slice (some ⟨g, 0, none⟩) s.cells.length cap) ++ rb (.slice (some ⟨fb, 0, none⟩) s.free.length fcap))) w (((((w1.setCell ⟨pb, 3, none⟩ (.int .i64 ((s.live : Int) + 1))).setCell ⟨pb, 2, none⟩ (.slice (some ⟨fb, 0, none⟩) (s.free.length - 1) fcap)).setCell ⟨g, i * 2, none⟩ (.int .u64 v)).setCell ⟨g, i * 2 + 1, none⟩ (.bool true)).alloc (.cells #[.int .u64 v, .bool true] 115)).drew :=
    ((((((hm.mono (by simp)).set (.inl (by simp)) _).set (.inl (by simp)) _).set (.inl (by rw [g1]; simp)) _).set (.inl (by rw [g1]; simp)) _).alloc _).drew
  have gw : ∀ k, k ∈ rb (.slice (some ⟨g, 0, none⟩) s.cells.length cap) ++ rb (.slice (some ⟨fb, 0, none⟩) (s.free.length - 1) fcap) → k ∈ rb (.slice (some ⟨g, 0, none⟩) s.cells.length cap) ++ rb (.slice (some ⟨fb, 0, none⟩) s.free.length fcap) ∨ w.heap.size ≤ k := fun k hk => .inl hk
  clear h h1 g6 g7 f5 f6 fr hic hi hm
  go_wp2
  refine wp_tail 7 (by kernel_rfl) (by kernel_rfl) ?_
  simp only [List.take_succ_cons, List.take_zero, List.drop_succ_cons, List.drop_zero]
  repeat still_step
  refine wpStill_nil ?_
  go_wp2
  go_ret2
  exact ⟨rfl, _, _, key, kmod, gw⟩

theorem ret_eq {k : IntKind} {a b : Int} {x : Value} (h : a = b) : Ending.returned (.tuple #[.int k a, x]) = .returned (.tuple #[.int k b, x]) := by rw [h]
theorem poolU_info : (Try.prog.info? 115).map (fun i => (i.zero, i.size, i.bytes)) = some (some (.agg #[.int .u64 0, .bool false]), 2, 16) := by kernel_rfl
theorem int_info : (Try.prog.info? 3).map (fun i => (i.zero, i.size, i.bytes)) = some (some (.int .i64 0), 1, 8) := by kernel_rfl
set_option maxRecDepth 100000 in
set_option maxHeartbeats 1000000 in
theorem poolU_alloc_new (pb mb : Nat) (cv fv : Value) (s : PS Int) (v : Int) (w : World) (h : PoolIn TU w pb mb cv fv s) (hf : s.live < s.limit) (hi : s.free = []) :
    Calls Try.prog 18 #[.pointer (some ⟨pb, 0, none⟩), .int .u64 v] w fun e w' => e = .returned (.tuple #[.int .i64 s.cells.length, .bool true]) ∧
      ∃ cv' fv', PoolIn TU w' pb mb cv' fv' (s.take v) ∧ Mod (pb :: (rb cv ++ rb fv)) w w' ∧ (∀ k ∈ rb cv' ++ rb fv', k ∈ rb cv ++ rb fv ∨ w.heap.size ≤ k) := by
  have hr := poolU_room pb mb cv fv s 1 w h
  have hd : decide ((1 : Int) ≤ (s.limit : Int) - s.live) = true := by simp; omega
  rw [hd] at hr
  clear hd
  go_enter Try.func18, Try.ntmps18
  go_wp2_with fail
  refine hr.mono ?_; clear hr; rintro e w1 ⟨rfl, hm⟩
  have h1 := h.mod hm (by simp)
  have hcnt := h1.wf.count
  have hb1 := h1.wf.lim
  have hb2 := h1.wf.len
  have hrow := h1.cells
  have hfree := h1.free
  rw [hi] at hfree hcnt
  simp only [List.length_nil] at hfree hcnt
  obtain ⟨a, cap, rfl, k1, k2⟩ := hrow.slice_
  obtain ⟨fa, fcap, rfl, k3, k4⟩ := hfree.slice_
  have c1 := h1.c1
  have c2 := h1.c2
  have c3 := h1.c3
  have hpb := h1.blk.lt
  have fr1 := h1.blk.frozen 1
  have fr3 := h1.blk.frozen 3
  have hpn := h1.cells.ty h1.blk TU.n1
  have hW : Blk ((((w1.setCell ⟨pb, 3, none⟩ (.int .i64 ((s.live : Int) + 1))).alloc (.cells #[.int .u64 v, .bool true] 115)).alloc (.cells #[.int .u64 v, .bool true] 115)).drew) pb TU.tp
      (poolCells mb (.slice a s.cells.length cap) (.slice fa 0 fcap) (s.live + 1) s.limit) := (((h1.blk.set 3 _).alloc _).alloc _).drew
  have hR : Row ((((w1.setCell ⟨pb, 3, none⟩ (.int .i64 ((s.live : Int) + 1))).alloc (.cells #[.int .u64 v, .bool true] 115)).alloc (.cells #[.int .u64 v, .bool true] 115)).drew) 115 2 (.slice a s.cells.length cap) s.cells.length (TU.row s) := (((hrow.far (p := ⟨pb, 3, none⟩) hpn _).alloc _).alloc _).drew
  have hN := (((Blk.new' (w := (w1.setCell ⟨pb, 3, none⟩ (.int .i64 ((s.live : Int) + 1))).alloc (.cells #[.int .u64 v, .bool true] 115)) (b := w1.heap.size + 1) (by simp [World.setCell]) 115 #[.int .u64 v, .bool true])).drew).news
  have hF : Row ((((w1.setCell ⟨pb, 3, none⟩ (.int .i64 ((s.live : Int) + 1))).alloc (.cells #[.int .u64 v, .bool true] 115)).alloc (.cells #[.int .u64 v, .bool true] 115)).drew) 3 1 (.slice fa 0 fcap) 0 [] := (((hfree.far (p := ⟨pb, 3, none⟩) (h1.free.ty h1.blk TU.n2) _).alloc _).alloc _).drew
  have hM : Mod (pb :: (rb (.slice a s.cells.length cap) ++ rb (.slice fa 0 fcap))) w ((((w1.setCell ⟨pb, 3, none⟩ (.int .i64 ((s.live : Int) + 1))).alloc (.cells #[.int .u64 v, .bool true] 115)).alloc (.cells #[.int .u64 v, .bool true] 115)).drew) := (((hm.mono (by simp)).set (.inl (by simp)) _).alloc _).alloc _ |>.drew
  have hWF : Hidden ((s.take v).wf ∧ (s.take v).live = s.live + 1 ∧ s.take v = { s with cells := s.cells ++ [some v] } ∧ s.free = []) := ⟨PS.take_wf h1.wf hf v, PS.take_live h1.wf v, by unfold PS.take; rw [hi]; rfl, hi⟩
  have hfc : ∀ k ∈ rb (.slice fa 0 fcap), k ∉ rb (.slice a s.cells.length cap) := hrow.ty2 hfree (Ne.symm TU.n3)
  have hpf := h1.free.ty h1.blk TU.n2
  have hsz : w.heap.size ≤ w1.heap.size := hm.size
  clear h h1 hi hrow hfree hcnt
  go_wp2
  go_region_law (refine step_app rfl (.tmp 58) (.tmp 60) 54 rfl 115 (.agg #[.int .u64 0, .bool false]) 2 16 (by kernel_rfl) poolU_info rfl (by decide) (.slice a s.cells.length cap) s.cells.length (TU.row s) rfl hR ⟨w1.heap.size + 1, 0, none⟩ 1 1 [.int .u64 v, .bool true] rfl rfl hN (by simp [Value.oneCell']) (by omega) (by omega) ?_; intro b' cap' w3 r3 m3 q3; have hb3 := hW.mod m3 hpn; have hc3 : w3.cell? ⟨pb, 1, none⟩ = some (.slice a s.cells.length cap) := hb3.cell 1; have hf3 := hb3.frozen 1; have hl3 := hb3.lt)
  all_goals
    go_wp2
    go_ret2
    obtain ⟨e1, e2, e3, e4⟩ := hWF.out
    have hpn' : pb ∉ rb (.slice b' (s.cells.length + 1) cap') := r3.ty hb3 TU.n1
    have hF3 := hF.mod m3 hfc
    refine ⟨ret_eq (by omega), .slice b' (s.cells.length + 1) cap', .slice fa 0 fcap, ⟨?_, ?_, ?_, e1⟩, ?_, ?_⟩
    · rw [e2, e3]; exact hb3.set 1 _
    · rw [e3]; simp only [List.length_append, List.length_cons, List.length_nil]
      rw [PT.row, List.flatMap_append]; exact r3.far (p := ⟨pb, 1, none⟩) hpn' _
    · rw [e3]; simp only [e4, List.length_nil, List.map_nil]; exact hF3.far (p := ⟨pb, 1, none⟩) hpf _
    · exact (hM.trans m3 (by simp +contextual)).set (.inl (by simp)) _
    · intro k hk
      simp only [List.mem_append] at hk ⊢
      rcases hk with hk | hk
      · rcases q3 k hk with hk | hk
        · exact .inl (.inl hk)
        · right; simp [World.setCell] at hk; omega
      · exact .inl (.inr hk)
end Go.Proofs.Ytnbanbfnabhjjaa
