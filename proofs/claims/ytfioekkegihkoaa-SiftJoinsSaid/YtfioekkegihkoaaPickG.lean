/- A region in an open order, with a class of worlds that only some operations keep: 0: nothing else is left to do; 1: it looks at worlds of the class; 2: it looks at slots alone. No program in sight. -/
import Derived.Test.YtfioekkegihkoaaPickV
set_option linter.unusedVariables false
set_option linter.unusedSimpArgs false
namespace Go.Proofs.Ytfioekkegihkoaa
open Go.RowKit
section
variable {P : Program} {ops : Array Oper} {md : Region.Mode} {G : Nat → Bool}
/-- Whatever order is picked: the operations that G names keep the class C. -/
def wpAnyG (P : Program) (md : Region.Mode) (ops : Array Oper) (G : Nat → Bool) (C : World → Prop) (Q : Act → World → Prop) : Nat → Array Bool → Act → World → Prop
  | 0, listed, a, w => Region.ready md ops listed = [] ∧ Q a w
  | fuel + 1, listed, a, w => (Region.ready md ops listed = [] → Q a w) ∧ ∀ i ∈ Region.ready md ops listed, sOp P ops i (fun a' w' => (G i = true → C w → C w') ∧ wpAnyG P md ops G C Q fuel (listed.setIfInBounds i true) a' w') a w
theorem wpAny_of_G {C : World → Prop} {Q' : Exit → Act → World → Prop} : ∀ (fuel : Nat) (listed : Array Bool) (a : Act) (w : World), wpAnyG P md ops G C (fun a w => Q' .normal a w) fuel listed a w → wpAny P md ops Q' fuel listed a w
  | 0, _, _, _, h => h
  | fuel + 1, _, _, _, h => ⟨h.1, fun i hi => wpOp_of_sOp (sOp_mono (fun a' w' hh => wpAny_of_G fuel _ a' w' hh.2) (h.2 i hi))⟩
theorem wpAnyG_first {C D : World → Prop} {Q : Act → World → Prop} {i : Nat} {oi : Oper} {v : Value} (hi : ops[i]? = some oi) (hsel : ∀ (j : Nat) (o : Oper) cs b, ops[j]? = some o → o.op ≠ .select cs b)
    (hD : (∀ w, D w) ∨ (D = C ∧ ∀ j oj, ops[j]? = some oj → j ≠ i → (∀ e ∈ oj.after, Region.binds md e = true → e.on ≠ i) → G j = true)) :
    ∀ (fuel : Nat) (listed : Array Bool) (a : Act) (w : World), D w →
      (∀ j oj, ops[j]? = some oj → j ≠ i → listed.getD j true = false → (∀ e ∈ oj.after, Region.binds md e = true → e.on ≠ i) → oi.apart ops oj = true) →
      i ∈ Region.ready md ops listed → Still P ops D oi v a →
      wpAnyG P md ops G C Q fuel (listed.setIfInBounds i true) (a.put oi.dst v) w → wpAnyG P md ops G C Q (fuel + 1) listed a w := by
  intro fuel
  induction fuel with
  | zero =>
    intro listed a w hC _ hr hy H
    refine ⟨fun h => (by rw [h] at hr; cases hr), fun j hj => ?_⟩
    by_cases hji : j = i
    · subst hji; exact hy.sOp hi hC ⟨fun _ h => h, H⟩
    · have := ready_mono hj hji
      rw [H.1] at this
      cases this
  | succ fuel ih =>
    intro listed a w hC hfree hr hy H
    refine ⟨fun h => (by rw [h] at hr; cases hr), fun j hj => ?_⟩
    by_cases hji : j = i
    · subst hji; exact hy.sOp hi hC ⟨fun _ h => h, H⟩
    · have h1 := H.2 j (ready_mono hj hji)
      obtain ⟨hjun, oj, hoj, hall⟩ := mem_ready.1 hj
      have hnot : ∀ e ∈ oj.after, Region.binds md e = true → e.on ≠ i := fun e he hb heq => by
        have h1 := hall e he hb
        have h0 := (mem_ready.1 hr).1
        rw [heq] at h1
        rcases Nat.lt_or_ge i listed.size with h' | h'
        · simp [h'] at h0 h1; rw [h0] at h1; cases h1
        · simp [Array.getElem?_eq_none h'] at h1
      have h2 := sOp_put hoj (hfree j oj hoj hji hjun hnot) (fun cs b => hsel i oi cs b hi) (fun cs b => hsel j oj cs b hoj) hy h1
      have hfree' : ∀ k ok, ops[k]? = some ok → k ≠ i → (listed.setIfInBounds j true).getD k true = false →
          (∀ e ∈ ok.after, Region.binds md e = true → e.on ≠ i) → oi.apart ops ok = true := fun k ok hk hki hun hno => by
        refine hfree k ok hk hki ?_ hno
        by_cases hjk : j = k
        · subst hjk; exact hjun
        · rw [getD_set_ne true hjk] at hun; exact hun
      refine sOp_mono (fun a' w' h3 => ?_) h2
      have hDw : D w' := by
        rcases hD with h | ⟨rfl, hg⟩
        · exact h w'
        · exact h3.2.1 (hg j oj hoj hji hnot) hC
      refine ⟨h3.2.1, ih (listed.setIfInBounds j true) a' w' hDw hfree' (ready_mono hr (Ne.symm hji)) h3.1 ?_⟩
      rw [Array.setIfInBounds_comm _ _ hji]
      exact h3.2.2
/-- The walk in an order of one's own. -/
def wpPickG (P : Program) (ops : Array Oper) (G : Nat → Bool) (C : World → Prop) (Q : Act → World → Prop) : List (Nat × Nat) → Act → World → Prop
  | [], a, w => Q a w
  | (i, 0) :: rest, a, w => sOp P ops i (fun a' w' => (G i = true → C w → C w') ∧ wpPickG P ops G C Q rest a' w') a w
  | (i, 1) :: rest, a, w => C w ∧ ∃ o v, ops[i]? = some o ∧ Still P ops C o v a ∧ wpPickG P ops G C Q rest (a.put o.dst v) w
  | (i, _ + 2) :: rest, a, w => ∃ o v, ops[i]? = some o ∧ Still P ops (fun _ => True) o v a ∧ wpPickG P ops G C Q rest (a.put o.dst v) w
/-- Every operation that does not wait for i keeps the class. -/
def keptB (md : Region.Mode) (ops : Array Oper) (G : Nat → Bool) (i : Nat) : Bool :=
  (List.range ops.size).all fun j => decide (j = i) || G j || (match ops[j]? with | some o => o.after.any fun e => Region.binds md e && decide (e.on = i) | none => true)
def pickGB (md : Region.Mode) (ops : Array Oper) (G : Nat → Bool) : List (Nat × Nat) → Array Bool → Bool
  | [], listed => (Region.ready md ops listed).isEmpty
  | (i, 0) :: rest, listed => decide (Region.ready md ops listed = [i]) && pickGB md ops G rest (listed.setIfInBounds i true)
  | (i, 1) :: rest, listed => (Region.ready md ops listed).contains i && Region.free md ops listed i && keptB md ops G i && pickGB md ops G rest (listed.setIfInBounds i true)
  | (i, _ + 2) :: rest, listed => (Region.ready md ops listed).contains i && Region.free md ops listed i && pickGB md ops G rest (listed.setIfInBounds i true)
theorem keptB_spec {i : Nat} (h : keptB md ops G i = true) : ∀ j oj, ops[j]? = some oj → j ≠ i → (∀ e ∈ oj.after, Region.binds md e = true → e.on ≠ i) → G j = true := by
  intro j oj hj hji hno
  unfold keptB at h
  have h1 := List.all_eq_true.1 h j (List.mem_range.2 (Array.getElem?_eq_some_iff.1 hj).1)
  simp only [Bool.or_eq_true, decide_eq_true_eq, hj] at h1
  rcases h1 with (h1 | h1) | h1
  · exact absurd h1 hji
  · exact h1
  · obtain ⟨e, he, h2⟩ := Array.any_eq_true'.1 h1
    simp only [Bool.and_eq_true, decide_eq_true_eq] at h2
    exact absurd h2.2 (hno e he h2.1)
theorem wpAnyG_pick {C : World → Prop} {Q : Act → World → Prop} (hs : Region.noSelect ops = true) : ∀ (L : List (Nat × Nat)) (listed : Array Bool) (a : Act) (w : World), pickGB md ops G L listed = true → wpPickG P ops G C Q L a w → wpAnyG P md ops G C Q L.length listed a w
  | [], listed, a, w, hB, h => ⟨by simpa [pickGB] using hB, h⟩
  | (i, 0) :: rest, listed, a, w, hB, h => by
    simp only [pickGB, Bool.and_eq_true, decide_eq_true_eq] at hB
    refine ⟨fun h0 => (by rw [hB.1] at h0; cases h0), fun j hj => ?_⟩
    rw [hB.1] at hj
    obtain rfl : j = i := by simpa using hj
    exact sOp_mono (fun a' w' hh => ⟨hh.1, wpAnyG_pick hs rest _ a' w' hB.2 hh.2⟩) h
  | (i, 1) :: rest, listed, a, w, hB, h => by
    obtain ⟨hC, o, v, ho, hy, hn⟩ := h
    simp only [pickGB, Bool.and_eq_true] at hB
    obtain ⟨⟨⟨hr, hf⟩, hk⟩, hB'⟩ := hB
    exact wpAnyG_first ho (Region.noSelect_spec hs) (.inr ⟨rfl, keptB_spec hk⟩) rest.length listed a w hC (Region.free_spec ho hf) (by simpa using hr) hy (wpAnyG_pick hs rest _ _ w hB' hn)
  | (i, _ + 2) :: rest, listed, a, w, hB, h => by
    obtain ⟨o, v, ho, hy, hn⟩ := h
    simp only [pickGB, Bool.and_eq_true] at hB
    obtain ⟨⟨hr, hf⟩, hB'⟩ := hB
    exact wpAnyG_first ho (Region.noSelect_spec hs) (.inl (fun _ => trivial)) rest.length listed a w trivial (Region.free_spec ho hf) (by simpa using hr) hy (wpAnyG_pick hs rest _ _ w hB' hn)
theorem wp_region_pickG {C : World → Prop} (G : Nat → Bool) (L : List (Nat × Nat)) {id : Nat} {Q : Exit → Act → World → Prop} {a : Act} {w : World} {l : List Oper} (hm : P.follows .mixedOrders = true) (hB : (Region.noSelect l.toArray && decide (L.length = l.toArray.size) && pickGB .any l.toArray G L (Array.replicate l.toArray.size false)) = true)
    (h : wpPickG P l.toArray G C (fun a w => Q .normal a w) L a w.drew) : (Code.region id l.toArray true).wp P Q a w := by
  simp only [Bool.and_eq_true, decide_eq_true_eq] at hB
  refine wp_region_any hm ?_
  have := wpAny_of_G (Q' := Q) _ _ _ _ (wpAnyG_pick (md := .any) hB.1.1 L (Array.replicate l.toArray.size false) a w.drew hB.2 h)
  rw [hB.1.2] at this
  exact this
end
section
variable {P : Program} {l : List Oper} {G : Nat → Bool} {C : World → Prop} {Q : Act → World → Prop} {rest : List (Nat × Nat)} {a : Act} {w : World} {i : Nat} {o : Oper}
theorem pg_move (x : Operand) (ho : l[i]? = some o) (hx : o.op = .move x ∨ o.op = .assign x) (hw : Region.wanted o (yielded l.toArray a.tmps) = true) (h : wpPickG P l.toArray G C Q rest (a.put o.dst (a.eval x)) w) : wpPickG P l.toArray G C Q ((i, 2) :: rest) a w :=
  ⟨o, _, by simpa using ho, .inl ⟨hw, fun w _ => hx.elim (fun h => BigFrame.run_move x h w) (fun h => BigFrame.run_assign x h w)⟩, h⟩
theorem pg_still (v : Value) (ho : l[i]? = some o) (hw : Region.wanted o (yielded l.toArray a.tmps) = true) (hv : ∀ w, (execOp a.eval o).run P w = .ok (.value v) w) (h : wpPickG P l.toArray G C Q rest (a.put o.dst v) w) : wpPickG P l.toArray G C Q ((i, 2) :: rest) a w :=
  ⟨o, v, by simpa using ho, .inl ⟨hw, fun w _ => hv w⟩, h⟩
/-- An operation that its guard leaves out. -/
theorem pg_out (ho : l[i]? = some o) (hw : Region.wanted o (yielded l.toArray a.tmps) = false) (h : wpPickG P l.toArray G C Q rest (a.put o.dst undef) w) : wpPickG P l.toArray G C Q ((i, 2) :: rest) a w :=
  ⟨o, undef, by simpa using ho, .inr ⟨hw, rfl⟩, h⟩
theorem pg_look (v : Value) (hC : C w) (ho : l[i]? = some o) (hw : Region.wanted o (yielded l.toArray a.tmps) = true) (hv : ∀ w, C w → (execOp a.eval o).run P w = .ok (.value v) w) (h : wpPickG P l.toArray G C Q rest (a.put o.dst v) w) : wpPickG P l.toArray G C Q ((i, 1) :: rest) a w :=
  ⟨hC, o, v, by simpa using ho, .inl ⟨hw, hv⟩, h⟩
theorem pg_call {f : Nat} {args : Array Value} (ho : l[i]? = some o) (hw : Region.wanted o (yielded l.toArray a.tmps) = true) (he : (execOp a.eval o).run P w = .ok (.enter f args) w)
    (h : Calls P f args w (fun e w'' => ∃ v, e = .returned v ∧ (G i = true → C w → C w'') ∧ wpPickG P l.toArray G C Q rest (a.put o.dst v) w'')) : wpPickG P l.toArray G C Q ((i, 0) :: rest) a w := by
  show sOp P l.toArray i _ a w
  unfold sOp
  rw [show l.toArray[i]? = some o from by simpa using ho]
  simp only [hw, if_true, he, safeUpon]
  exact h
theorem pg_val {v : Value} {w' : World} (ho : l[i]? = some o) (hw : Region.wanted o (yielded l.toArray a.tmps) = true) (he : (execOp a.eval o).run P w = .ok (.value v) w')
    (hC : G i = true → C w → C w') (h : wpPickG P l.toArray G C Q rest (a.put o.dst v) w') : wpPickG P l.toArray G C Q ((i, 0) :: rest) a w := by
  show sOp P l.toArray i _ a w
  unfold sOp
  rw [show l.toArray[i]? = some o from by simpa using ho]
  simp only [hw, if_true, he, safeUpon]
  exact ⟨hC, h⟩
theorem pg_skip {w' : World} (ho : l[i]? = some o) (hw : Region.wanted o (yielded l.toArray a.tmps) = true) (he : (execOp a.eval o).run P w = .ok .skip w')
    (hC : G i = true → C w → C w') (h : wpPickG P l.toArray G C Q rest (a.put o.dst undef) w') : wpPickG P l.toArray G C Q ((i, 0) :: rest) a w := by
  show sOp P l.toArray i _ a w
  unfold sOp
  rw [show l.toArray[i]? = some o from by simpa using ho]
  simp only [hw, if_true, he, safeUpon]
  exact ⟨hC, h⟩
theorem pg_app (ho : l[i]? = some o) (hw : Region.wanted o (yielded l.toArray a.tmps) = true) (s x : Operand) (t : TypeId)
    (hop : o.op = .call { callee := .builtin .append, args := #[s, x], argTypes := #[t, t] })
    (e : TypeId) (z : Value) (size bytes : Nat) (ht : P.underlying t = some (.slice e)) (hi : (P.info? e).map (fun i => (i.zero, i.size, i.bytes)) = some (some z, size, bytes))
    (hzs : z.cells.size = size) (hsz : 0 < size)
    (v : Value) (n : Nat) (xs : List Value) (hs : a.eval s = v) (hown : Row w e size v n xs)
    (y : Value) (m : Nat) (news : List Value) (hy : a.eval x = y) (hx : Holds w y m size news) (h1 : ∀ u ∈ news, u.oneCell' = true)
    (h63 : n + m ≤ 9223372036854775807) (hbytes : (n + m) * bytes ≤ 140737488355328)
    (h : ∀ b cap w', Row w' e size (.slice b (n + m) cap) (n + m) (xs ++ news) → Mod (rb v) w w' → (∀ k ∈ rb (.slice b (n + m) cap), k ∈ rb v ∨ w.heap.size ≤ k) → (G i = true → C w → C w') ∧ wpPickG P l.toArray G C Q rest (a.put o.dst (.slice b (n + m) cap)) w') :
    wpPickG P l.toArray G C Q ((i, 0) :: rest) a w := by
  obtain ⟨j, hi', hz, hsize, hby⟩ := info_parts hi
  obtain ⟨b, cap, w', hr, h2, h3, h4⟩ := append_any (P := P) (w := w) t o.type e j z size bytes ht hi' hz hsize hby hzs hsz v n xs hown y m news hx h1 h63 hbytes
  obtain ⟨h5, h6⟩ := h b cap w' h2 h3 h4
  refine pg_val ho hw ?_ h5 h6
  unfold execOp
  simp only [hop, resolve, invoke, builtin, Sem.run_bind, Sem.run_pure, Result.andThen_ok, List.map_toArray, List.map_cons, List.map_nil, hs, hy, hr]
theorem pg_nil {ops : Array Oper} (h : Q a w) : wpPickG P ops G C Q [] a w := h
end
end Go.Proofs.Ytfioekkegihkoaa
