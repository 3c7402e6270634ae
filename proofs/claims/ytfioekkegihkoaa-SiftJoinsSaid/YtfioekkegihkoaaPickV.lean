/- A region in an open order: operations that yield a value and may turn the world; append. No program in sight. -/
import Derived.Test.YtfioekkegihkoaaPick
import Derived.Test.YtfioekkegihkoaaGSl
set_option linter.unusedVariables false
set_option linter.unusedSimpArgs false
namespace Go.Proofs.Ytfioekkegihkoaa
open Go.RowKit
section
variable {P : Program} {l : List Oper} {C : World → Prop} {Q : Act → World → Prop} {rest : List (Nat × Bool)} {a : Act} {w : World} {i : Nat} {o : Oper}
theorem pick_stillC (v : Value) (ho : l[i]? = some o) (hw : Region.wanted o (yielded l.toArray a.tmps) = true) (hv : ∀ w, C w → (execOp a.eval o).run P w = .ok (.value v) w) (h : wpPick P l.toArray C Q rest (a.put o.dst v) w) : wpPick P l.toArray C Q ((i, true) :: rest) a w :=
  ⟨o, v, by simpa using ho, .inl ⟨hw, hv⟩, h⟩
theorem pick_val {v : Value} {w' : World} (ho : l[i]? = some o) (hw : Region.wanted o (yielded l.toArray a.tmps) = true) (he : (execOp a.eval o).run P w = .ok (.value v) w')
    (hC : C w') (h : wpPick P l.toArray C Q rest (a.put o.dst v) w') : wpPick P l.toArray C Q ((i, false) :: rest) a w := by
  show sOp P l.toArray i _ a w
  unfold sOp
  rw [show l.toArray[i]? = some o from by simpa using ho]
  simp only [hw, if_true, he, safeUpon]
  exact ⟨hC, h⟩
theorem pick_skip {w' : World} (ho : l[i]? = some o) (hw : Region.wanted o (yielded l.toArray a.tmps) = true) (he : (execOp a.eval o).run P w = .ok .skip w')
    (hC : C w') (h : wpPick P l.toArray C Q rest (a.put o.dst undef) w') : wpPick P l.toArray C Q ((i, false) :: rest) a w := by
  show sOp P l.toArray i _ a w
  unfold sOp
  rw [show l.toArray[i]? = some o from by simpa using ho]
  simp only [hw, if_true, he, safeUpon]
  exact ⟨hC, h⟩
theorem pick_app (ho : l[i]? = some o) (hw : Region.wanted o (yielded l.toArray a.tmps) = true) (s x : Operand) (t : TypeId)
    (hop : o.op = .call { callee := .builtin .append, args := #[s, x], argTypes := #[t, t] })
    (e : TypeId) (z : Value) (size bytes : Nat) (ht : P.underlying t = some (.slice e)) (hi : (P.info? e).map (fun i => (i.zero, i.size, i.bytes)) = some (some z, size, bytes))
    (hzs : z.cells.size = size) (hsz : 0 < size)
    (v : Value) (n : Nat) (xs : List Value) (hs : a.eval s = v) (hown : Row w e size v n xs)
    (y : Value) (m : Nat) (news : List Value) (hy : a.eval x = y) (hx : Holds w y m size news) (h1 : ∀ u ∈ news, u.oneCell' = true)
    (h63 : n + m ≤ 9223372036854775807) (hbytes : (n + m) * bytes ≤ 140737488355328)
    (h : ∀ b cap w', Row w' e size (.slice b (n + m) cap) (n + m) (xs ++ news) → Mod (rb v) w w' → (∀ k ∈ rb (.slice b (n + m) cap), k ∈ rb v ∨ w.heap.size ≤ k) → C w' ∧ wpPick P l.toArray C Q rest (a.put o.dst (.slice b (n + m) cap)) w') :
    wpPick P l.toArray C Q ((i, false) :: rest) a w := by
  obtain ⟨i, hi', hz, hsize, hby⟩ := info_parts hi
  obtain ⟨b, cap, w', hr, h2, h3, h4⟩ := append_any (P := P) (w := w) t o.type e i z size bytes ht hi' hz hsize hby hzs hsz v n xs hown y m news hx h1 h63 hbytes
  obtain ⟨h5, h6⟩ := h b cap w' h2 h3 h4
  refine pick_val ho hw ?_ h5 h6
  unfold execOp
  simp only [hop, resolve, invoke, builtin, Sem.run_bind, Sem.run_pure, Result.andThen_ok, List.map_toArray, List.map_cons, List.map_nil, hs, hy, hr]
end
end Go.Proofs.Ytfioekkegihkoaa
