/- The pool of uint64: Free, Clear. -/
import Derived.Test.YtnbanbfnabhjjaaPoolU
namespace Go.Proofs.Ytnbanbfnabhjjaa
open Go.RowKit

set_option maxHeartbeats 400000 in
theorem poolU_free_nil (i : Int) (w : World) :
    Calls Try.prog 22 #[.pointer none, .int .i64 i] w fun e w' => e = .returned (.bool false) ∧ w = w' := by
  go_enter Try.func22, Try.ntmps22
  go_wp2_with (go_at_call 28; refine (poolU_live_nil _ _).mono ?_; rintro e w' ⟨rfl, rfl⟩)
  go_ret
  exact ⟨rfl, rfl⟩
set_option maxHeartbeats 400000 in
theorem poolU_free_no (pb mb : Nat) (cv fv : Value) (s : PS Int) (i : Int) (w : World) (h : PoolIn TU w pb mb cv fv s) (hg : s.get i = none) :
    Calls Try.prog 22 #[.pointer (some ⟨pb, 0, none⟩), .int .i64 i] w fun e w' => e = .returned (.bool false) ∧ w = w' := by
  have hl := poolU_live pb mb cv fv s i w h
  rw [hg] at hl
  clear hg h
  go_enter Try.func22, Try.ntmps22
  go_wp2_with (go_at_call 28; refine hl.mono ?_; clear hl; rintro e w' ⟨rfl, rfl⟩)
  go_ret
  exact ⟨rfl, rfl⟩
set_option maxRecDepth 100000 in
set_option maxHeartbeats 1000000 in
theorem poolU_free_yes (pb mb : Nat) (cv fv : Value) (s : PS Int) (i : Nat) (u : Int) (w : World) (h : PoolIn TU w pb mb cv fv s) (hg : s.get i = some u) :
    Calls Try.prog 22 #[.pointer (some ⟨pb, 0, none⟩), .int .i64 i] w fun e w' => e = .returned (.bool true) ∧
      ∃ cv' fv', PoolIn TU w' pb mb cv' fv' (s.drop i) ∧ Mod (pb :: (rb cv ++ rb fv)) w w' ∧ (∀ k ∈ rb cv' ++ rb fv', k ∈ rb cv ++ rb fv ∨ w.heap.size ≤ k) := by
  have hl := poolU_live pb mb cv fv s i w h
  rw [hg] at hl
  obtain ⟨_, hs⟩ := PS.get_some hg
  simp only [Int.toNat_natCast] at hs
  have hj : i < s.cells.length := (List.getElem?_eq_some_iff.1 hs).1
  have hcnt := h.wf.count
  have hb1 := h.wf.lim
  have hb2 := h.wf.len
  have hlive := PS.drop_live hs
  obtain ⟨g, cap, rfl, g1, g2, g3, g4, g5, g6, g7⟩ := h.at_ (by omega)
  have hd0 := g6 i 0 _ hs (by simp [TU])
  have hd1 := g6 i 1 _ hs (by simp [TU])
  rw [show TU.sz + 1 = 2 from rfl] at hd0 hd1
  simp only [PT.cell, TU, List.singleton_append, Nat.add_zero, List.getElem?_cons_zero, List.getElem?_cons_succ] at hd0 hd1
  obtain ⟨fa, fcap, rfl, k3, k4⟩ := h.free.slice_
  have c1 := h.c1
  have c2 := h.c2
  have c3 := h.c3
  have hpb := h.blk.lt
  have fr2 := h.blk.frozen 2
  have fr3 := h.blk.frozen 3
  have fg0 := g7 (i * 2)
  have fg1 := g7 (i * 2 + 1)
  have hpf := h.free.ty h.blk TU.n2
  have hgf : g ∉ rb (.slice fa s.free.length fcap) := fun hk => by have := h.free.ty2 h.cells (e' := TU.tc) TU.n3 g (by rw [g1]; simp); exact this hk
  have hW : Blk (((w.setCell ⟨g, i * 2, none⟩ (.int .u64 0)).setCell ⟨g, i * 2 + 1, none⟩ (.bool false)).alloc (.cells #[.int .i64 i] 3)) pb TU.tp (poolCells mb (.slice (some ⟨g, 0, none⟩) s.cells.length cap) (.slice fa s.free.length fcap) s.live s.limit) :=
    ((h.blk.far (p := ⟨g, i * 2, none⟩) (Ne.symm g5) _).far (p := ⟨g, i * 2 + 1, none⟩) (Ne.symm g5) _).alloc _
  have hF : Row (((w.setCell ⟨g, i * 2, none⟩ (.int .u64 0)).setCell ⟨g, i * 2 + 1, none⟩ (.bool false)).alloc (.cells #[.int .i64 i] 3)) 3 1 (.slice fa s.free.length fcap) s.free.length (s.free.map fun i => .int .i64 (i : Nat)) :=
    ((h.free.far (p := ⟨g, i * 2, none⟩) hgf _).far (p := ⟨g, i * 2 + 1, none⟩) hgf _).alloc _
  have hC : Row (((w.setCell ⟨g, i * 2, none⟩ (.int .u64 0)).setCell ⟨g, i * 2 + 1, none⟩ (.bool false)).alloc (.cells #[.int .i64 i] 3)) TU.tc 2 (.slice (some ⟨g, 0, none⟩) s.cells.length cap) s.cells.length (TU.row (s.drop i)) := by
    have hr := (Row.stored (Row.stored h.cells (i * 2) (.int .u64 0)) (i * 2 + 1) (.bool false)).alloc (.cells #[.int .i64 i] 3)
    have hl2 := flat_len TU.cell 2 TU.cell_len s.cells
    have hb : (i + 1) * 2 ≤ s.cells.length * 2 := Nat.mul_le_mul_right _ hj
    rw [set2_eq _ _ _ _ (by rw [PT.row, hl2]; omega)] at hr
    rw [PT.row]
    simp only [PS.drop]
    rw [flat_put TU.cell 2 TU.cell_len _ _ hj]
    exact hr
  have hN := (Blk.new' (w := (w.setCell ⟨g, i * 2, none⟩ (.int .u64 0)).setCell ⟨g, i * 2 + 1, none⟩ (.bool false)) (b := w.heap.size) (by simp [World.setCell]) 3 #[.int .i64 i]).news
  have hM : Mod (pb :: (rb (.slice (some ⟨g, 0, none⟩) s.cells.length cap) ++ rb (.slice fa s.free.length fcap))) w (((w.setCell ⟨g, i * 2, none⟩ (.int .u64 0)).setCell ⟨g, i * 2 + 1, none⟩ (.bool false)).alloc (.cells #[.int .i64 i] 3)) := (((Mod.refl _ w).set (.inl (by rw [g1]; simp)) _).set (.inl (by rw [g1]; simp)) _).alloc _
  have hWF : Hidden ((s.drop i).wf ∧ (s.drop i).live + 1 = s.live ∧ (s.drop i).cells.length = s.cells.length ∧ (s.drop i).free = s.free ++ [i]) := ⟨PS.drop_wf h.wf hs, hlive, by simp [PS.drop], rfl⟩
  have hcf : ∀ k ∈ rb (.slice (some ⟨g, 0, none⟩) s.cells.length cap), k ∉ rb (.slice fa s.free.length fcap) := fun k hk => by rw [g1] at hk; simp at hk; subst hk; exact hgf
  have hlv : 0 ≤ (s.live : Int) - 1 := by omega
  have hpc := h.cells.ty h.blk TU.n1
  clear h hg g6 g7 hs hlive
  go_enter Try.func22, Try.ntmps22
  go_wp2_with (first | (go_at_call 28; refine hl.mono ?_; clear hl; rintro e w' ⟨rfl, rfl⟩) | (at_builtin; refine wpList_app rfl (.tmp 20) (.tmp 22) 47 rfl 3 (.int .i64 0) 1 8 (by kernel_rfl) int_info rfl (by decide) (.slice fa s.free.length fcap) s.free.length _ rfl hF ⟨w.heap.size, 0, none⟩ 1 1 [.int .i64 i] rfl rfl hN (by simp [Value.oneCell']) (by omega) (by omega) ?_; intro b' cap' w3 r3 m3 q3; have hb3 := hW.mod m3 hpf; have hc2 : w3.cell? ⟨pb, 2, none⟩ = some (.slice fa s.free.length fcap) := hb3.cell 2; have hc3 : w3.cell? ⟨pb, 3, none⟩ = some (.int .i64 s.live) := hb3.cell 3; have hf2 := hb3.frozen 2; have hf3 := hb3.frozen 3; have hl3 := hb3.lt))
  go_ret
  obtain ⟨e1, e2, e3, e4⟩ := hWF.out
  have hpn' : pb ∉ rb (.slice b' (s.free.length + 1) cap') := r3.ty hb3 TU.n2
  have hC3 := hC.mod m3 hcf
  refine ⟨rfl, .slice (some ⟨g, 0, none⟩) s.cells.length cap, .slice b' (s.free.length + 1) cap', ⟨?_, ?_, ?_, e1⟩, ?_, ?_⟩
  · have : (s.live : Int) - 1 = ((s.drop i).live : Nat) := by omega
    rw [this]; exact (hb3.set 2 _).set 3 _
  · rw [e3]; exact (hC3.far (p := ⟨pb, 2, none⟩) hpc _).far (p := ⟨pb, 3, none⟩) hpc _
  · rw [e4]; simp only [List.length_append, List.length_cons, List.length_nil, List.map_append, List.map_cons, List.map_nil]
    exact (r3.far (p := ⟨pb, 2, none⟩) hpn' _).far (p := ⟨pb, 3, none⟩) hpn' _
  · exact ((hM.trans m3 (by simp +contextual)).set (.inl (by simp)) _).set (.inl (by simp)) _
  · intro k hk
    simp only [List.mem_append] at hk ⊢
    rcases hk with hk | hk
    · exact .inl (.inl hk)
    · rcases q3 k hk with hk | hk
      · exact .inl (.inr hk)
      · right; simp [World.setCell] at hk; omega
end Go.Proofs.Ytnbanbfnabhjjaa
