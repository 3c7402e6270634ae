/- Texts joined: PoolU, PoolU2, PoolB, Clear, PoolA. -/
import Derived.Test.YtfioekkegihkoaaGLib
import Derived.Laws.CopyRow
set_option linter.unusedVariables false
set_option linter.unusedSimpArgs false
/- The pool of uint64: what each of its calls does. -/
namespace Go.Proofs.Ytfioekkegihkoaa
open Go.RowKit

theorem PoolIn.new_ (T : PT Int) (w : World) (mb : Nat) (limit : Nat) (hl : limit ≤ 1048576) :
    PoolIn T (w.alloc (.cells (poolCells mb (.slice none 0 0) (.slice none 0 0) 0 limit) T.tp)) w.heap.size mb (.slice none 0 0) (.slice none 0 0) (PS.empty limit) :=
  ⟨Blk.new w _ _, Row.nil_ _ _ _, Row.nil_ _ _ _, PS.empty_wf _ hl⟩
theorem ret_eq {k : IntKind} {a b : Int} {x : Value} (h : a = b) : Ending.returned (.tuple #[.int k a, x]) = .returned (.tuple #[.int k b, x]) := by rw [h]
theorem int_info : (Try.prog.info? 3).map (fun i => (i.zero, i.size, i.bytes)) = some (some (.int .i64 0), 1, 8) := by kernel_rfl
end Go.Proofs.Ytfioekkegihkoaa

/- The pool of uint64: Free, Clear. -/
namespace Go.Proofs.Ytfioekkegihkoaa
open Go.RowKit

end Go.Proofs.Ytfioekkegihkoaa

/- The pool of uint64 with its meter, behind one word: what a law sees. -/
namespace Go.Proofs.Ytfioekkegihkoaa
open Go.RowKit

theorem Mod.belowOf {S : List Nat} {w0 w w' : World} (hm : Mod S w w') (hb : Below w0.heap.size w0 w) (hS : ∀ k ∈ S, w0.heap.size ≤ k) : Below w0.heap.size w0 w' := hb.trans (hm.below hb.size hS)
end Go.Proofs.Ytfioekkegihkoaa

/- The builtin clear on an owned row; Clear of the pool of uint64. -/
namespace Go.Proofs.Ytfioekkegihkoaa
open Go.RowKit
set_option linter.unusedVariables false
set_option linter.unusedSimpArgs false

theorem Mod.setRow_ (w : World) (g : Nat) (cs : Array Value) : Mod [g] w (w.setRow g cs) :=
  ⟨rfl, rfl, rfl, by simp [World.setRow], fun k _ hn => setRow_other w g k _ (by simpa using hn)⟩
theorem clear_where {P : Program} {w : World} (t e ty : TypeId) (z : Value) (size : Nat) (ht : P.underlying t = some (.slice e)) (hz : ∀ w, (zeroValue e).run P w = .ok z w) (hzs : z.cells.size = size) (h1 : ∀ u ∈ z.cells, u.oneCell' = true)
    (v : Value) (n : Nat) (xs : List Value) (hown : Row w e size v n xs) :
    ∃ w', (Builtin.clear_ #[t] ty #[v]).run P w = .ok (.tuple #[]) w' ∧ Mod (rb v) w w' := by
  rcases hown.2 with ⟨rfl, rfl⟩ | ⟨g, cap, cur, rfl, _, hg, hnc, hcm, hcs, htake⟩
  · exact ⟨w, by simp [Builtin.clear_, run_underlying ht], Mod.refl _ w⟩
  · rcases Nat.eq_zero_or_pos n with rfl | hn
    · exact ⟨w, by simp [Builtin.clear_, run_underlying ht], Mod.refl _ w⟩
    · have hlen : (Builtin.zeroCells z.cells n).toList.length = n * size := by rw [Array.length_toList, size_zeroCells, hzs]
      have hone : ∀ u ∈ (Builtin.zeroCells z.cells n).toList, u.oneCell' = true := by
        intro u hu
        simp only [Builtin.zeroCells, Array.mem_toList_iff, Array.mem_map, Array.mem_range] at hu
        obtain ⟨i, _, rfl⟩ := hu
        have hp : 0 < z.cells.size := by
          rcases Nat.eq_zero_or_pos z.cells.size with h0 | h0
          · rename_i hi; simp [h0] at hi
          · exact h0
        have hi : i % z.cells.size < z.cells.size := Nat.mod_lt _ hp
        have hq : z.cells[i % z.cells.size]! = z.cells[i % z.cells.size] := getElem!_pos z.cells (i % z.cells.size) hi
        rw [hq]
        exact h1 _ (Array.getElem_mem _)
      have hst := run_storeCells_at (P := P) g 0 e (Builtin.zeroCells z.cells n).toList 0 cur w hg (by rw [hlen]; simp only [Nat.zero_add]; rw [hcs]; exact Nat.mul_le_mul_right _ hnc) hone
      refine ⟨w.setRow g (List.take (0 + 0) cur.toList ++ (Builtin.zeroCells z.cells n).toList ++ List.drop (0 + 0 + (Builtin.zeroCells z.cells n).toList.length) cur.toList).toArray, ?_, Mod.setRow_ w g _⟩
      obtain ⟨m, rfl⟩ : ∃ m, n = m + 1 := ⟨n - 1, by omega⟩
      simp [Builtin.clear_, run_underlying ht, hz, hst]
theorem wpList_clear {P : Program} {w : World} {ops : Array Oper} {rest : List Oper} {o : Oper} {a : Act} {Q : Exit → Act → World → Prop} (hgd : o.guard = none) (s : Operand) (t : TypeId)
    (ho : o.op = .call { callee := .builtin .clear, args := #[s], argTypes := #[t] })
    (e : TypeId) (z : Value) (size : Nat) (ht : P.underlying t = some (.slice e)) (hz : ∀ w, (zeroValue e).run P w = .ok z w) (hzs : z.cells.size = size) (h1 : ∀ u ∈ z.cells, u.oneCell' = true)
    (v : Value) (n : Nat) (xs : List Value) (hs : a.eval s = v) (hown : Row w e size v n xs)
    (h : ∀ w', Mod (rb v) w w' → wpList P ops Q rest (a.put o.dst (.tuple #[])) w') : wpList P ops Q (o :: rest) a w := by
  obtain ⟨w', hr, h2⟩ := clear_where (P := P) (w := w) t e o.type z size ht hz hzs h1 v n xs hown
  refine wpList_plain hgd (fun K hK => ?_)
  unfold Oper.wp execOp
  simp only [ho, resolve, invoke, builtin, Sem.run_bind, Sem.run_pure, Result.andThen_ok, List.map_toArray, List.map_cons, List.map_nil, hs, hr]
  exact hK _ _ (h w' h2)

end Go.Proofs.Ytfioekkegihkoaa

/- The pool of uint64 behind one word, for those that build on it. -/
namespace Go.Proofs.Ytfioekkegihkoaa
open Go.RowKit
set_option linter.unusedVariables false
set_option linter.unusedSimpArgs false

section
variable {w : World} {pb mb : Nat} {F : List Nat} {s s' : PS Int} {i : Nat} {ok : Bool}
/-- What a call that turns an object leaves: the object's blocks are its old ones or new. -/
def Fresh (w : World) (F F' : List Nat) : Prop := ∀ k ∈ F', k ∈ F ∨ w.heap.size ≤ k
theorem Fresh.refl (w : World) (F : List Nat) : Fresh w F F := fun k hk => .inl hk
/-- Another object's blocks stay apart. -/
theorem Fresh.apart {w : World} {F F' G : List Nat} (h : Fresh w F F') (hG : ∀ k ∈ G, k < w.heap.size) (hd : ∀ k ∈ G, k ∉ F) : ∀ k ∈ G, k ∉ F' := by
  intro k hk hk'
  rcases h k hk' with h1 | h1
  · exact hd k hk h1
  · have := hG k hk; omega
theorem Fresh.not_mem {w : World} {F F' : List Nat} {x : Nat} (h : Fresh w F F') (hx : x < w.heap.size) (hd : x ∉ F) : x ∉ F' := fun hk => by
  rcases h x hk with h1 | h1
  · exact hd h1
  · omega
theorem Fresh.ge {w : World} {F F' : List Nat} {B : Nat} (h : Fresh w F F') (hB : B ≤ w.heap.size) (hF : ∀ k ∈ F, B ≤ k) : ∀ k ∈ F', B ≤ k := by
  intro k hk
  rcases h k hk with h1 | h1
  · exact hF k h1
  · omega
theorem pool_fresh {cv fv cv' fv' : Value} (h : ∀ k ∈ rb cv' ++ rb fv', k ∈ rb cv ++ rb fv ∨ w.heap.size ≤ k) : Fresh w (pb :: (rb cv ++ rb fv)) (pb :: (rb cv' ++ rb fv')) := by
  intro k hk
  rcases List.mem_cons.1 hk with rfl | hk
  · exact .inl (by simp)
  · rcases h k hk with h1 | h1
    · exact .inl (List.mem_cons_of_mem _ h1)
    · exact .inr h1
end
end Go.Proofs.Ytfioekkegihkoaa
