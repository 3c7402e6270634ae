/- A region in an open order: operations that look at slots alone are taken first, in an order of one's own; a call is met where nothing else is left to do. No program in sight. -/
import Derived.Test.YtfioekkegihkoaaGLib
import Derived.Deep.Quiet
import Derived.BigQuiet
set_option linter.unusedVariables false
set_option linter.unusedSimpArgs false
namespace Go.Proofs.Ytfioekkegihkoaa
open Go.RowKit
section
variable {P : Program} {ops : Array Oper} {md : Region.Mode}
/-- What is asked of an operation that yields or calls: no panic, nothing else. -/
def safeUpon (P : Program) (o : Oper) (a : Act) (K : Act → World → Prop) : Result Next → Prop
  | .ok (.value u) w' => K (a.put o.dst u) w'
  | .ok .skip w' => K (a.put o.dst undef) w'
  | .ok (.enter f args) w' => Calls P f args w' (fun e w'' => ∃ v, e = .returned v ∧ K (a.put o.dst v) w'')
  | _ => False
def sOp (P : Program) (ops : Array Oper) (i : Nat) (K : Act → World → Prop) (a : Act) (w : World) : Prop :=
  match ops[i]? with
  | none => K a w
  | some o => if Region.wanted o (yielded ops a.tmps) then safeUpon P o a K ((execOp a.eval o).run P w) else K (a.put o.dst undef) w
theorem safe_mono {o : Oper} {a : Act} {K K' : Act → World → Prop} (h : ∀ a w, K a w → K' a w) {r : Result Next} (hh : safeUpon P o a K r) : safeUpon P o a K' r := by
  cases r with
  | ok n w' =>
    cases n <;> simp only [safeUpon] at hh ⊢
    · exact h _ _ hh
    · exact h _ _ hh
    · exact hh.mono fun e w'' ⟨v, hv, hk⟩ => ⟨v, hv, h _ _ hk⟩
  | halt x w' => simp only [safeUpon] at hh
theorem sOp_mono {i : Nat} {a : Act} {w : World} {K K' : Act → World → Prop} (h : ∀ a w, K a w → K' a w) (hh : sOp P ops i K a w) : sOp P ops i K' a w := by
  unfold sOp at *
  split
  · rename_i ho; simp only [ho] at hh; exact h _ _ hh
  · rename_i o ho
    simp only [ho] at hh
    split
    · rename_i hw; simp only [hw, if_true] at hh; exact safe_mono h hh
    · rename_i hw; simp only [hw] at hh; exact h _ _ hh
theorem wpOp_of_sOp {i : Nat} {a : Act} {w : World} {K : Act → World → Prop} {Q' : Exit → Act → World → Prop} (hh : sOp P ops i K a w) : wpOp P ops Q' i K a w := by
  unfold sOp at hh
  unfold wpOp
  split
  · rename_i ho; simp only [ho] at hh; exact hh
  · rename_i o ho
    simp only [ho] at hh
    split
    · rename_i hw
      simp only [hw, if_true] at hh
      refine .inl ?_
      unfold Oper.wp
      generalize (execOp a.eval o).run P w = r at *
      cases r with
      | ok n w' =>
        cases n <;> simp only [safeUpon] at hh <;> simp only [Oper.upon]
        · exact hh
        · exact hh
        · exact hh.mono fun e w'' ⟨v, hv, hk⟩ => by subst hv; exact hk
      | halt x w' => simp only [safeUpon] at hh
    · rename_i hw; simp only [hw] at hh; exact hh
/-- Whatever order is picked: all worlds on the way are of the class C. -/
def wpAnyS (P : Program) (md : Region.Mode) (ops : Array Oper) (C : World → Prop) (Q : Act → World → Prop) : Nat → Array Bool → Act → World → Prop
  | 0, listed, a, w => Region.ready md ops listed = [] ∧ Q a w
  | fuel + 1, listed, a, w => (Region.ready md ops listed = [] → Q a w) ∧ ∀ i ∈ Region.ready md ops listed, sOp P ops i (fun a' w' => C w' ∧ wpAnyS P md ops C Q fuel (listed.setIfInBounds i true) a' w') a w
theorem wpAny_of_S {C : World → Prop} {Q' : Exit → Act → World → Prop} : ∀ (fuel : Nat) (listed : Array Bool) (a : Act) (w : World), wpAnyS P md ops C (fun a w => Q' .normal a w) fuel listed a w → wpAny P md ops Q' fuel listed a w
  | 0, _, _, _, h => h
  | fuel + 1, _, _, _, h => ⟨h.1, fun i hi => wpOp_of_sOp (sOp_mono (fun a' w' hh => wpAny_of_S fuel _ a' w' hh.2) (h.2 i hi))⟩
/-- In state a, in every world of the class, o leaves v in its slot, and the world as it is. -/
def Still (P : Program) (ops : Array Oper) (C : World → Prop) (o : Oper) (v : Value) (a : Act) : Prop :=
  (Region.wanted o (yielded ops a.tmps) = true ∧ ∀ w, C w → (execOp a.eval o).run P w = .ok (.value v) w) ∨ (Region.wanted o (yielded ops a.tmps) = false ∧ v = undef)
theorem Still.of_same {C : World → Prop} {o : Oper} {v : Value} {a a' : Act} (hy : Still P ops C o v a) (he : execOp a'.eval o = execOp a.eval o) (hw : Region.wanted o (yielded ops a'.tmps) = Region.wanted o (yielded ops a.tmps)) : Still P ops C o v a' := by
  unfold Still at *
  rw [he, hw]; exact hy
theorem Still.sOp {C : World → Prop} {i : Nat} {o : Oper} {v : Value} {a : Act} {w : World} {K : Act → World → Prop} (hi : ops[i]? = some o) (hy : Still P ops C o v a) (hC : C w) (h : K (a.put o.dst v) w) : sOp P ops i K a w := by
  unfold Proofs.Ytfioekkegihkoaa.sOp
  simp only [hi]
  rcases hy with ⟨hw, hv⟩ | ⟨hw, rfl⟩
  · simp only [hw, if_true, hv w hC, safeUpon]; exact h
  · simp only [hw, Bool.false_eq_true, if_false]; exact h
theorem sOp_put {C : World → Prop} {j : Nat} {oi oj : Oper} {v : Value} (hj : ops[j]? = some oj) (hap : oi.apart ops oj = true) (hsi : ∀ cs b, oi.op ≠ .select cs b) (hsj : ∀ cs b, oj.op ≠ .select cs b) {K : Act → World → Prop} {a : Act} {w : World}
    (hy : Still P ops C oi v a) (h : sOp P ops j K (a.put oi.dst v) w) : sOp P ops j (fun a' w' => Still P ops C oi v a' ∧ K (a'.put oi.dst v) w') a w := by
  obtain ⟨h1, h2, h3⟩ := Oper.apart_spec hap
  have keep : ∀ (a : Act), Still P ops C oi v a → ∀ u, Still P ops C oi v (a.put oj.dst u) := fun a hy u => hy.of_same (execOp_put oi hsi a oj.dst u h3) (wanted_put oi a oj.dst u h3)
  unfold sOp at *
  simp only [hj] at *
  rw [wanted_put oj a oi.dst v h1, execOp_put oj hsj a oi.dst v h1] at h
  split
  · rename_i hw
    simp only [hw, if_true] at h
    generalize (execOp a.eval oj).run P w = r at *
    cases r with
    | ok n w' =>
      cases n <;> simp only [safeUpon] at h ⊢
      · rw [Act.put_comm a v _ h2] at h; exact ⟨keep a hy _, h⟩
      · rw [Act.put_comm a v _ h2] at h; exact ⟨keep a hy _, h⟩
      · exact h.mono fun e w'' ⟨u, hu, hk⟩ => ⟨u, hu, keep a hy u, by rw [← Act.put_comm a v u h2]; exact hk⟩
    | halt x w' => simp only [safeUpon] at h
  · rename_i hw
    simp only [hw] at h
    exact ⟨keep a hy _, by rw [← Act.put_comm a v undef h2]; exact h⟩
theorem wpAnyS_first {C : World → Prop} {Q : Act → World → Prop} {i : Nat} {oi : Oper} {v : Value} (hi : ops[i]? = some oi) (hsel : ∀ (j : Nat) (o : Oper) cs b, ops[j]? = some o → o.op ≠ .select cs b) :
    ∀ (fuel : Nat) (listed : Array Bool) (a : Act) (w : World), C w →
      (∀ j oj, ops[j]? = some oj → j ≠ i → listed.getD j true = false → (∀ e ∈ oj.after, Region.binds md e = true → e.on ≠ i) → oi.apart ops oj = true) →
      i ∈ Region.ready md ops listed → Still P ops C oi v a →
      wpAnyS P md ops C Q fuel (listed.setIfInBounds i true) (a.put oi.dst v) w → wpAnyS P md ops C Q (fuel + 1) listed a w := by
  intro fuel
  induction fuel with
  | zero =>
    intro listed a w hC _ hr hy H
    refine ⟨fun h => (by rw [h] at hr; cases hr), fun j hj => ?_⟩
    by_cases hji : j = i
    · subst hji; exact hy.sOp hi hC ⟨hC, H⟩
    · have := ready_mono hj hji
      rw [H.1] at this
      cases this
  | succ fuel ih =>
    intro listed a w hC hfree hr hy H
    refine ⟨fun h => (by rw [h] at hr; cases hr), fun j hj => ?_⟩
    by_cases hji : j = i
    · subst hji; exact hy.sOp hi hC ⟨hC, H⟩
    · have h1 := H.2 j (ready_mono hj hji)
      obtain ⟨hjun, oj, hoj, hall⟩ := mem_ready.1 hj
      have hnot : ∀ e ∈ oj.after, Region.binds md e = true → e.on ≠ i := fun e he hb heq => by
        have h1 := hall e he hb
        have h0 := (mem_ready.1 hr).1
        rw [heq] at h1
        rcases Nat.lt_or_ge i listed.size with h' | h'
        · simp [h'] at h0 h1; rw [h0] at h1; cases h1
        · simp [Array.getElem?_eq_none h'] at h1
      have h2 := sOp_put hoj (hfree j oj hoj hji hjun hnot) (fun cs b => hsel i oi cs b hi) (fun cs b => hsel j oj cs b hoj) hy h1
      have hfree' : ∀ k ok, ops[k]? = some ok → k ≠ i → (listed.setIfInBounds j true).getD k true = false →
          (∀ e ∈ ok.after, Region.binds md e = true → e.on ≠ i) → oi.apart ops ok = true := fun k ok hk hki hun hno => by
        refine hfree k ok hk hki ?_ hno
        by_cases hjk : j = k
        · subst hjk; exact hjun
        · rw [getD_set_ne true hjk] at hun; exact hun
      refine sOp_mono (fun a' w' h3 => ⟨h3.2.1, ih (listed.setIfInBounds j true) a' w' h3.2.1 hfree' (ready_mono hr (Ne.symm hji)) h3.1 ?_⟩) h2
      rw [Array.setIfInBounds_comm _ _ hji]
      exact h3.2.2
/-- The walk in an order of one's own: true: it looks at slots alone; false: nothing else is left to do. -/
def wpPick (P : Program) (ops : Array Oper) (C : World → Prop) (Q : Act → World → Prop) : List (Nat × Bool) → Act → World → Prop
  | [], a, w => Q a w
  | (i, true) :: rest, a, w => ∃ o v, ops[i]? = some o ∧ Still P ops C o v a ∧ wpPick P ops C Q rest (a.put o.dst v) w
  | (i, false) :: rest, a, w => sOp P ops i (fun a' w' => C w' ∧ wpPick P ops C Q rest a' w') a w
def pickB (md : Region.Mode) (ops : Array Oper) : List (Nat × Bool) → Array Bool → Bool
  | [], listed => (Region.ready md ops listed).isEmpty
  | (i, true) :: rest, listed => (Region.ready md ops listed).contains i && Region.free md ops listed i && pickB md ops rest (listed.setIfInBounds i true)
  | (i, false) :: rest, listed => decide (Region.ready md ops listed = [i]) && pickB md ops rest (listed.setIfInBounds i true)
theorem wpAnyS_pick {C : World → Prop} {Q : Act → World → Prop} (hs : Region.noSelect ops = true) : ∀ (L : List (Nat × Bool)) (listed : Array Bool) (a : Act) (w : World), C w → pickB md ops L listed = true → wpPick P ops C Q L a w → wpAnyS P md ops C Q L.length listed a w
  | [], listed, a, w, _, hB, h => ⟨by simpa [pickB] using hB, h⟩
  | (i, true) :: rest, listed, a, w, hC, hB, h => by
    obtain ⟨o, v, ho, hy, hn⟩ := h
    simp only [pickB, Bool.and_eq_true] at hB
    obtain ⟨⟨hr, hf⟩, hB'⟩ := hB
    exact wpAnyS_first ho (Region.noSelect_spec hs) rest.length listed a w hC (Region.free_spec ho hf) (by simpa using hr) hy (wpAnyS_pick hs rest _ _ w hC hB' hn)
  | (i, false) :: rest, listed, a, w, hC, hB, h => by
    simp only [pickB, Bool.and_eq_true, decide_eq_true_eq] at hB
    refine ⟨fun h0 => (by rw [hB.1] at h0; cases h0), fun j hj => ?_⟩
    rw [hB.1] at hj
    obtain rfl : j = i := by simpa using hj
    exact sOp_mono (fun a' w' hh => ⟨hh.1, wpAnyS_pick hs rest _ a' w' hh.1 hB.2 hh.2⟩) h
theorem wp_region_pick {C : World → Prop} (L : List (Nat × Bool)) {id : Nat} {Q : Exit → Act → World → Prop} {a : Act} {w : World} {l : List Oper} (hm : P.follows .mixedOrders = true) (hB : (Region.noSelect l.toArray && decide (L.length = l.toArray.size) && pickB .any l.toArray L (Array.replicate l.toArray.size false)) = true)
    (hC : C w.drew) (h : wpPick P l.toArray C (fun a w => Q .normal a w) L a w.drew) : (Code.region id l.toArray true).wp P Q a w := by
  simp only [Bool.and_eq_true, decide_eq_true_eq] at hB
  refine wp_region_any hm ?_
  have := wpAny_of_S (Q' := Q) _ _ _ _ (wpAnyS_pick (md := .any) hB.1.1 L (Array.replicate l.toArray.size false) a w.drew hC hB.2 h)
  rw [hB.1.2] at this
  exact this
end
section
variable {P : Program} {l : List Oper} {C : World → Prop} {Q : Act → World → Prop} {rest : List (Nat × Bool)} {a : Act} {w : World} {i : Nat} {o : Oper}
theorem pick_move (x : Operand) (ho : l[i]? = some o) (hx : o.op = .move x ∨ o.op = .assign x) (hw : Region.wanted o (yielded l.toArray a.tmps) = true) (h : wpPick P l.toArray C Q rest (a.put o.dst (a.eval x)) w) : wpPick P l.toArray C Q ((i, true) :: rest) a w :=
  ⟨o, _, by simpa using ho, .inl ⟨hw, fun w _ => hx.elim (fun h => BigFrame.run_move x h w) (fun h => BigFrame.run_assign x h w)⟩, h⟩
theorem pick_still (v : Value) (ho : l[i]? = some o) (hw : Region.wanted o (yielded l.toArray a.tmps) = true) (hv : ∀ w, (execOp a.eval o).run P w = .ok (.value v) w) (h : wpPick P l.toArray C Q rest (a.put o.dst v) w) : wpPick P l.toArray C Q ((i, true) :: rest) a w :=
  ⟨o, v, by simpa using ho, .inl ⟨hw, fun w _ => hv w⟩, h⟩
theorem pick_call {f : Nat} {args : Array Value} (ho : l[i]? = some o) (hw : Region.wanted o (yielded l.toArray a.tmps) = true) (he : (execOp a.eval o).run P w = .ok (.enter f args) w)
    (h : Calls P f args w (fun e w'' => ∃ v, e = .returned v ∧ C w'' ∧ wpPick P l.toArray C Q rest (a.put o.dst v) w'')) : wpPick P l.toArray C Q ((i, false) :: rest) a w := by
  show sOp P l.toArray i _ a w
  unfold sOp
  rw [show l.toArray[i]? = some o from by simpa using ho]
  simp only [hw, if_true, he, safeUpon]
  exact h
theorem pick_nil {ops : Array Oper} (h : Q a w) : wpPick P ops C Q [] a w := h
end
end Go.Proofs.Ytfioekkegihkoaa
