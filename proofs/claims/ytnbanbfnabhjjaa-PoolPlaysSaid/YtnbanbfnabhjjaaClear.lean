/- The builtin clear on an owned row; Clear of the pool of uint64. -/
import Derived.Test.YtnbanbfnabhjjaaPoolB
import Derived.Laws.CopyRow
namespace Go.Proofs.Ytnbanbfnabhjjaa
open Go.RowKit
set_option linter.unusedVariables false
set_option linter.unusedSimpArgs false

theorem Mod.setRow_ (w : World) (g : Nat) (cs : Array Value) : Mod [g] w (w.setRow g cs) :=
  ⟨rfl, rfl, rfl, by simp [World.setRow], fun k _ hn => setRow_other w g k _ (by simpa using hn)⟩
theorem clear_where {P : Program} {w : World} (t e ty : TypeId) (z : Value) (size : Nat) (ht : P.underlying t = some (.slice e)) (hz : ∀ w, (zeroValue e).run P w = .ok z w) (hzs : z.cells.size = size) (h1 : ∀ u ∈ z.cells, u.oneCell' = true)
    (v : Value) (n : Nat) (xs : List Value) (hown : Row w e size v n xs) :
    ∃ w', (Builtin.clear_ #[t] ty #[v]).run P w = .ok (.tuple #[]) w' ∧ Mod (rb v) w w' := by
  rcases hown.2 with ⟨rfl, rfl⟩ | ⟨g, cap, cur, rfl, _, hg, hnc, hcm, hcs, htake⟩
  · exact ⟨w, by simp [Builtin.clear_, run_underlying ht], Mod.refl _ w⟩
  · rcases Nat.eq_zero_or_pos n with rfl | hn
    · exact ⟨w, by simp [Builtin.clear_, run_underlying ht], Mod.refl _ w⟩
    · have hlen : (Builtin.zeroCells z.cells n).toList.length = n * size := by rw [Array.length_toList, size_zeroCells, hzs]
      have hone : ∀ u ∈ (Builtin.zeroCells z.cells n).toList, u.oneCell' = true := by
        intro u hu
        simp only [Builtin.zeroCells, Array.mem_toList_iff, Array.mem_map, Array.mem_range] at hu
        obtain ⟨i, _, rfl⟩ := hu
        have hp : 0 < z.cells.size := by
          rcases Nat.eq_zero_or_pos z.cells.size with h0 | h0
          · rename_i hi; simp [h0] at hi
          · exact h0
        have hi : i % z.cells.size < z.cells.size := Nat.mod_lt _ hp
        have hq : z.cells[i % z.cells.size]! = z.cells[i % z.cells.size] := getElem!_pos z.cells (i % z.cells.size) hi
        rw [hq]
        exact h1 _ (Array.getElem_mem _)
      have hst := run_storeCells_at (P := P) g 0 e (Builtin.zeroCells z.cells n).toList 0 cur w hg (by rw [hlen]; simp only [Nat.zero_add]; rw [hcs]; exact Nat.mul_le_mul_right _ hnc) hone
      refine ⟨w.setRow g (List.take (0 + 0) cur.toList ++ (Builtin.zeroCells z.cells n).toList ++ List.drop (0 + 0 + (Builtin.zeroCells z.cells n).toList.length) cur.toList).toArray, ?_, Mod.setRow_ w g _⟩
      obtain ⟨m, rfl⟩ : ∃ m, n = m + 1 := ⟨n - 1, by omega⟩
      simp [Builtin.clear_, run_underlying ht, hz, hst]
theorem wpList_clear {P : Program} {w : World} {ops : Array Oper} {rest : List Oper} {o : Oper} {a : Act} {Q : Exit → Act → World → Prop} (hgd : o.guard = none) (s : Operand) (t : TypeId)
    (ho : o.op = .call { callee := .builtin .clear, args := #[s], argTypes := #[t] })
    (e : TypeId) (z : Value) (size : Nat) (ht : P.underlying t = some (.slice e)) (hz : ∀ w, (zeroValue e).run P w = .ok z w) (hzs : z.cells.size = size) (h1 : ∀ u ∈ z.cells, u.oneCell' = true)
    (v : Value) (n : Nat) (xs : List Value) (hs : a.eval s = v) (hown : Row w e size v n xs)
    (h : ∀ w', Mod (rb v) w w' → wpList P ops Q rest (a.put o.dst (.tuple #[])) w') : wpList P ops Q (o :: rest) a w := by
  obtain ⟨w', hr, h2⟩ := clear_where (P := P) (w := w) t e o.type z size ht hz hzs h1 v n xs hown
  refine wpList_plain hgd (fun K hK => ?_)
  unfold Oper.wp execOp
  simp only [ho, resolve, invoke, builtin, Sem.run_bind, Sem.run_pure, Result.andThen_ok, List.map_toArray, List.map_cons, List.map_nil, hs, hr]
  exact hK _ _ (h w' h2)

set_option maxHeartbeats 400000 in
theorem poolU_clear_nil (w : World) : Calls Try.prog 25 #[.pointer none] w fun e w' => e = .returned (.tuple #[]) ∧ w = w' := by
  go_enter Try.func25, Try.ntmps25
  go_wp2
  go_end0
  exact ⟨rfl, rfl⟩
theorem poolU_zero (w : World) : (zeroValue 115).run Try.prog w = .ok (.agg #[.int .u64 0, .bool false]) w := by kernel_rfl
set_option maxHeartbeats 1000000 in
theorem poolU_clear (pb mb : Nat) (cv fv : Value) (s : PS Int) (w : World) (h : PoolIn TU w pb mb cv fv s) :
    Calls Try.prog 25 #[.pointer (some ⟨pb, 0, none⟩)] w fun e w' => e = .returned (.tuple #[]) ∧ PoolIn TU w' pb mb (.slice none 0 0) (.slice none 0 0) (PS.empty s.limit) ∧ Mod (pb :: (rb cv ++ rb fv)) w w' := by
  have c1 := h.c1
  have hpc := h.cells.ty h.blk TU.n1
  have hrow := h.cells
  have hlim := h.wf.lim
  obtain ⟨a, cap, rfl, k1, k2⟩ := hrow.slice_
  have H := Hidden.mk h
  have HP := Hidden.mk hpc
  clear h hpc
  go_enter Try.func25, Try.ntmps25
  go_wp2_with (refine wpList_clear rfl (.tmp 7) 54 rfl 115 (.agg #[.int .u64 0, .bool false]) 2 (by kernel_rfl) poolU_zero rfl (by simp [Value.cells, Value.oneCell']) _ _ _ rfl hrow ?_; intro w1 hm1'; have hm1 : Mod (rb (.slice a s.cells.length cap)) w w1 := hm1'; clear hm1'; have hb1 := H.out.blk.mod hm1 HP.out; have d1 : w1.cell? ⟨pb, 1, none⟩ = some (.slice a s.cells.length cap) := hb1.cell 1; have d2 : w1.cell? ⟨pb, 2, none⟩ = some fv := hb1.cell 2; have d3 : w1.cell? ⟨pb, 3, none⟩ = some (.int .i64 s.live) := hb1.cell 3; have f1 := hb1.frozen 1; have f2 := hb1.frozen 2; have f3 := hb1.frozen 3; have hl1 := hb1.lt)
  go_end0
  refine ⟨rfl, ⟨((hb1.set 1 _).set 2 _).set 3 _, Row.nil_ _ _ _, Row.nil_ _ _ _, PS.empty_wf _ hlim⟩, ?_⟩
  exact (((hm1.mono (by simp +contextual)).set (.inl (by simp)) _).set (.inl (by simp)) _).set (.inl (by simp)) _
end Go.Proofs.Ytnbanbfnabhjjaa
