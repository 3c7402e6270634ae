/- clear at a part of a row; append of so many zeros (slices.Grow). No program in sight. -/
import Derived.Test.YthcjnijggebcaaaSrt
import Derived.Test.YthcjnijggebcaaaApp
import Derived.Laws.CopyRow
namespace Go.Proofs.Ythcjnijggebcaaa
open Go.RowKit
set_option linter.unusedVariables false
set_option linter.unusedSimpArgs false
theorem Mod.setRow1 (w : World) (g : Nat) (cs : Array Value) : Mod [g] w (w.setRow g cs) :=
  ⟨rfl, rfl, rfl, by simp [World.setRow], fun k _ hn => setRow_other w g k _ (by simpa using hn)⟩
theorem clear_part {P : Program} {w w0 : World} {kk : IntKind} {e sz b n m : Nat} {d : Array Int} (t ty : TypeId) (ht : P.underlying t = some (.slice e)) (hz : ∀ w, (zeroValue e).run P w = .ok (.int kk 0) w)
    (hS : SR kk e sz b 0 n w0 w d) (hm : m < n) (hn : n ≤ sz) (c : Nat) :
    ∃ w', (Builtin.clear_ #[t] ty #[.slice (some ⟨b, m, none⟩) (n - m) c]).run P w = .ok (.tuple #[]) w' ∧ SR kk e sz b 0 m w0 w' (d.extract 0 m) := by
  obtain ⟨cur, hg, hcs, hc⟩ := hS.blk
  have hlen : (Builtin.zeroCells (Value.int kk 0).cells (n - m)).toList.length = n - m := by rw [Array.length_toList, size_zeroCells]; simp [Value.cells]
  have hone : ∀ u ∈ (Builtin.zeroCells (Value.int kk 0).cells (n - m)).toList, u.oneCell' = true := by
    intro u hu
    simp only [Builtin.zeroCells, Array.mem_toList_iff, Array.mem_map, Array.mem_range] at hu
    obtain ⟨i, _, rfl⟩ := hu
    have : i % (Value.int kk 0).cells.size = 0 := by simp [Value.cells, Nat.mod_one]
    rw [this]; rfl
  have hst := run_storeCells_at (P := P) b m e (Builtin.zeroCells (Value.int kk 0).cells (n - m)).toList 0 cur w hg (by rw [hlen]; omega) hone
  refine ⟨w.setRow b (List.take (m + 0) cur.toList ++ (Builtin.zeroCells (Value.int kk 0).cells (n - m)).toList ++ List.drop (m + 0 + (Builtin.zeroCells (Value.int kk 0).cells (n - m)).toList.length) cur.toList).toArray, ?_, ?_⟩
  · obtain ⟨q, hq⟩ : ∃ q, n - m = q + 1 := ⟨n - m - 1, by omega⟩
    rw [hq] at hst ⊢
    simp [Builtin.clear_, run_underlying ht, hz, hst]
  · have hblt : b < w.heap.size := hS.lt
    refine ⟨by simp [hS.size]; omega, hS.mod.trans (Mod.setRow1 w b _) (by simp), _, setRow_heap w b cur _ e (0, 0) hg, ?_, fun t ht => ?_⟩
    · simp [size_zeroCells, Value.cells]; omega
    · have h1 := hc t (by omega)
      rw [Nat.zero_add] at h1 ⊢
      have h2 : t < cur.size := (Array.getElem?_eq_some_iff.1 h1).1
      have h3 : (d.extract 0 m)[t]! = d[t]! := by
        have hz := hS.size
        have : t < d.size := by omega
        simp [this, show t < min m d.size by omega]
      rw [h3, ← h1]
      simp only [List.getElem?_toArray, List.append_assoc]
      rw [List.getElem?_append_left (by simp; omega), List.getElem?_take_of_lt (by omega)]
      simp
theorem wpList_clear_part {P : Program} {w w0 : World} {ops : Array Oper} {rest : List Oper} {o : Oper} {a : Act} {Q : Exit → Act → World → Prop} (hgd : o.guard = none) (s : Operand) (t : TypeId)
    (ho : o.op = .call { callee := .builtin .clear, args := #[s], argTypes := #[t] })
    {kk : IntKind} {e sz b n m c : Nat} {d : Array Int} (ht : P.underlying t = some (.slice e)) (hz : ∀ w, (zeroValue e).run P w = .ok (.int kk 0) w)
    (hS : SR kk e sz b 0 n w0 w d) (hm : m < n) (hn : n ≤ sz) (hs : a.eval s = .slice (some ⟨b, m, none⟩) (n - m) c)
    (h : ∀ w', SR kk e sz b 0 m w0 w' (d.extract 0 m) → wpList P ops Q rest (a.put o.dst (.tuple #[])) w') : wpList P ops Q (o :: rest) a w := by
  obtain ⟨w', hr, h2⟩ := clear_part (P := P) (w := w) t o.type ht hz hS hm hn c
  refine wpList_plain hgd (fun K hK => ?_)
  unfold Oper.wp execOp
  simp only [ho, resolve, invoke, builtin, Sem.run_bind, Sem.run_pure, Result.andThen_ok, List.map_toArray, List.map_cons, List.map_nil, hs, hr]
  exact hK _ _ (h w' h2)
/-- append(nil, make([]E, n)...): n zeros in a block of its own. -/
theorem append_zeros {P : Program} {w : World} (t u ty e : TypeId) (i : TypeInfo) (kk : IntKind) (ku : IntKind) (ht : P.underlying t = some (.slice e)) (hu : P.underlying u = some (.int ku)) (hi : P.info? e = some i) (hz : i.zero = some (.int kk 0)) (hsz : i.size = 1)
    (n : Nat) (h0 : 0 < n) (h63 : (n : Int) ≤ 1000000000) (h48 : n * i.bytes ≤ 140737488355328) :
    ∃ cap w', (Builtin.append_ #[t, u] ty #[.slice none 0 0, .int .i64 n]).run P w = .ok (.slice (some ⟨w.heap.size, 0, none⟩) n cap) w' ∧ Mod [] w w' ∧ (∃ cs, Blk w' w.heap.size e cs ∧ cs.size = cap) ∧ n ≤ cap ∧ cap ≤ maxLen := by
  have hn : n ≠ 0 := by omega
  have h63' : ¬ (9223372036854775807 < (n : Int)) := by omega
  have h48' : ¬ (281474976710656 < Builtin.nextslicecap n 0 * i.bytes) := by rw [nextslicecap_zero h0]; omega
  have hw : IntKind.i64.wrap (n : Int) = n := IntWalk.i64_in _ (by omega)
  have hneg : ¬ ((n : Int) < 0) := by omega
  have hby : ¬ ((281474976710656 : Int) < (n : Int) * (i.bytes : Int)) := by
    have : ((n * i.bytes : Nat) : Int) = (n : Int) * (i.bytes : Int) := by push_cast; rfl
    omega
  have hcap := grownCap_ge w n 0 e
  have hcap2 := grownCap_le_maxLen w n 0 e (by unfold maxLen; omega)
  refine ⟨grownCap w n 0 e, w.drew.alloc (.cells (Builtin.zeroCells (Value.int kk 0).cells n ++ Builtin.zeroCells (Value.int kk 0).cells (grownCap w n 0 e - n)) e), ?_, (Mod.refl [] w).drew.alloc _, ⟨_, Blk.new w.drew e _, ?_⟩, hcap, hcap2⟩
  · simp [Builtin.append_, run_underlying ht, run_underlying hu, sizeOf, typeInfo, zeroValue, hi, hz, hsz, asInt, asIntOf, hw, hneg, hby, hn, h63', h48', Question.forced, run_firstCells_none, newRow, grownCap]
  · simp [size_zeroCells, Value.cells]; omega
theorem wpList_append_zeros {P : Program} {w : World} {ops : Array Oper} {rest : List Oper} {o : Oper} {a : Act} {Q : Exit → Act → World → Prop} (hgd : o.guard = none) (s x : Operand) (t u : TypeId)
    (ho : o.op = .call { callee := .builtin .append, args := #[s, x], argTypes := #[t, u] })
    (e : TypeId) (kk ku : IntKind) (bytes : Nat) (ht : P.underlying t = some (.slice e)) (hu : P.underlying u = some (.int ku)) (hi : (P.info? e).map (fun i => (i.zero, i.size, i.bytes)) = some (some (.int kk 0), 1, bytes))
    (n : Nat) (hs : a.eval s = .slice none 0 0) (hx : a.eval x = .int .i64 n) (h0 : 0 < n) (h63 : (n : Int) ≤ 1000000000) (h48 : n * bytes ≤ 140737488355328)
    (h : ∀ cap w', Mod [] w w' → (∃ cs, Blk w' w.heap.size e cs ∧ cs.size = cap) → n ≤ cap → cap ≤ 9223372036854775807 → wpList P ops Q rest (a.put o.dst (.slice (some ⟨w.heap.size, 0, none⟩) n cap)) w') : wpList P ops Q (o :: rest) a w := by
  obtain ⟨i, hi', hz, hsize, hby⟩ := info_parts hi
  subst hby
  obtain ⟨cap, w', hr, h2, h3, h4, h5⟩ := append_zeros (P := P) (w := w) t u o.type e i kk ku ht hu hi' hz hsize n h0 h63 h48
  refine wpList_plain hgd (fun K hK => ?_)
  unfold Oper.wp execOp
  simp only [ho, resolve, invoke, builtin, Sem.run_bind, Sem.run_pure, Result.andThen_ok, List.map_toArray, List.map_cons, List.map_nil, hs, hx, hr]
  exact hK _ _ (h cap w' h2 h3 h4 (by unfold maxLen at h5; exact h5))
end Go.Proofs.Ythcjnijggebcaaa
