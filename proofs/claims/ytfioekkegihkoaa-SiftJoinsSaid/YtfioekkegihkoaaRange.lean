/- A range over a function that tells nothing; a range over a pool's function. -/
import Derived.Test.YtfioekkegihkoaaGPool
import Derived.RangeFuncFrom
import Derived.RangeFuncNested
set_option linter.unusedVariables false
set_option linter.unusedSimpArgs false
namespace Go.Proofs.Ytfioekkegihkoaa
open Go.RowKit
set_option linter.unusedVariables false
set_option linter.unusedSimpArgs false

/-- The function ranged over returns at once: the body is never entered. -/
theorem wp_range_none {P : Program} {g : Operand} {ps : Array Tmp} {assign body : Code} {Q : Exit → Act → World → Prop} {a : Act} {w : World}
    {gf : Nat} {lb : Array Value} (hg : a.eval g = .func (.func gf) #[] lb) (eg : ∀ args w, (callFunc gf args).run P w = .ok (.enter gf args) w)
    (hit : ∀ l W, Below w.heap.size w W → Calls P gf (#[.func (.yield l) #[] #[]] ++ lb) W fun e W' => (∃ v, e = .returned v) ∧ W = W')
    (hdone : ∀ (D : Nat) (W : World), w.heap.size ≤ D → Below w.heap.size w W → W.heap[D]? = some (.deferred (some [])) → Q .normal { a with defers := { target := .collected D, args := #[] } :: a.defers } W) :
    (Code.rangeFunc g ps assign body).wp P Q a w := by
  refine (wpIn_wide (n := 3)).1 ?_
  refine wpIn_rangeFunc_ownF (α := Empty) (encs := fun x => x.elim) (Kp := Below w.heap.size) (S := fun xs => True) (Sp := fun _ => False) (N := 0) (w0 := w) rfl (by omega) hg trivial eg ?_ belowK_t (belowK_b (Nat.le_refl _)) (Below.refl _ _) (fun x => x.elim)
    (fun _ W => Below w.heap.size w W) (fun _ _ _ => False) (ownFrom_below (Nat.le_refl _) (Nat.le_refl _)) (fun c s W W' row hs _ _ => hs.elim) (Below.refl _ _) (fun x => x.elim) (fun l x => x.elim) (fun l pre x => x.elim) (fun D xs W hD _ hi hk => hdone D W hD hi hk) (fun D c pre W hD hs => hs.elim)
  intro l J Jx W hW hJ hJx hY h0
  refine (callsIn_wide.2 (hit l W hW)).mono ?_
  rintro e W' ⟨hv, rfl⟩
  exact ⟨hv, .inl ⟨[], trivial, h0⟩⟩

theorem calls_of_wp_marks {P : Program} {f : FuncId} {fn : Func} {c : Code} {args : Array Value} {w : World} {R : Ending → World → Prop}
    (hf : P.funcs[f]? = some fn) (hb : fn.body = some c)
    (h : c.wp P (bodyPostM Fence.wide 3 P fn R) { tmps := args ++ Array.replicate (fn.ntmps - args.size) undef, defers := [] } w) : Calls P f args w R :=
  callsIn_wide.1 (callsIn_of_wp_marks (n := 3) hf hb trivial (wpIn_wide.2 h) rfl)
theorem bodyPostM_ret {P : Program} {fn : Func} {R : Ending → World → Prop} {a : Act} {w : World} {v : Value} {D : Nat} (hd : a.defers = [{ target := .collected D, args := #[] }]) (hk : w.heap[D]? = some (.deferred (some [])))
    (hr : (results fn a.tmps).run P (w.putObj D (.deferred none)) = .ok v (w.putObj D (.deferred none))) (hR : R (.returned v) (w.putObj D (.deferred none))) : bodyPostM Fence.wide 3 P fn R .ret a w := by
  show LeavesInM Fence.wide 3 P fn a.tmps R a.defers .returning w
  rw [hd]
  exact ⟨by simp, .inl ⟨_, _, rfl, run_takeDeferred hk, ⟨v, hr, hR⟩⟩⟩
end Go.Proofs.Ytfioekkegihkoaa
