/- A region in an open order whose operations give the same values in every world of a class: one walk in the order of the text; outside, and inside a round of a range over a function (wide fence). No program in sight. -/
import Derived.Test.YtnbanbfnabhjjaaRange
import Derived.RangeFuncCalls
import Derived.OwnWalkIn
namespace Go.Proofs.Ytnbanbfnabhjjaa
open Go.RowKit
section
variable {P : Program} {n l : Nat} {md : Region.Mode} {C : World → Prop}
theorem quiet_round {o : Oper} {a : Act} {K : Act → Prop} {K' : Act → World → Prop} {Q : Exit → Act → World → Prop} {w : World} (hnd : ∀ c, o.op ≠ .defer c) (hw : C w) (hK : ∀ a w', C w' → K a → K' a w') (h : o.quiet P a C K) :
    o.wpIn (Fence.wide.inRound l) n P a w K' Q := by
  refine ⟨fun _ _ => trivial, ?_⟩
  obtain ⟨v, h1, h2⟩ := h
  have h3 := h1 w hw
  unfold Oper.quietAt at h3
  rw [show Oper.semAt (Fence.wide.inRound l).round a.eval o = execOp a.eval o from Oper.semAt_some l _ _ hnd]
  generalize (execOp a.eval o).run P w = r at *
  cases r with
  | ok x w' =>
    cases x with
    | value u => obtain ⟨rfl, rfl⟩ := h3; exact hK _ _ hw h2
    | skip => obtain ⟨rfl, rfl⟩ := h3; exact hK _ _ hw h2
    | enter f args =>
      obtain ⟨rfl, hc⟩ := h3
      exact ⟨fun h => by simp [Fence.wide] at h, CallsIn.inRound l (callsIn_wide.2 (hc.mono fun e w'' ⟨he, hw''⟩ => by subst he; exact hK _ _ hw'' h2))⟩
    | _ => exact h3.elim
  | halt x w' => exact h3.elim
def noDefer (ops : List Oper) : Bool := ops.all fun o => match o.op with | .defer _ => false | _ => true
theorem noDefer_at {ops : List Oper} (h : noDefer ops = true) {i : Nat} {o : Oper} (hi : ops[i]? = some o) : ∀ c, o.op ≠ .defer c := by
  intro c hc
  have := (List.all_eq_true.1 h) o (List.mem_of_getElem? hi)
  rw [hc] at this; cases this
theorem qOp_round {L : List Oper} {i : Nat} {a : Act} {w : World} {K : Act → Prop} {K' : Act → World → Prop} {Q : Exit → Act → World → Prop} (hnd : noDefer L = true) (hw : C w) (hK : ∀ a w', C w' → K a → K' a w') (h : qOp P L.toArray C i K a) :
    wpOpIn (Fence.wide.inRound l) n P L.toArray Q i K' a w := by
  unfold qOp at h
  unfold wpOpIn
  split
  · rename_i ho; simp only [ho] at h; exact hK _ _ hw h
  · rename_i o ho
    simp only [ho] at h
    have hn := noDefer_at hnd (i := i) (o := o) (by simpa using ho)
    split
    · rename_i hwt; simp only [hwt, if_true] at h; exact quiet_round hn hw hK h
    · rename_i hwt; simp only [hwt] at h; exact ⟨fun _ _ => trivial, hK _ _ hw h⟩
theorem wpAny_round {L : List Oper} {Q : Act → Prop} {Q' : Exit → Act → World → Prop} (hnd : noDefer L = true) (hQ : ∀ a w, C w → Q a → Q' .normal a w) : ∀ (fuel : Nat) (listed : Array Bool) (a : Act) (w : World), C w →
    wpAnyQ P md L.toArray C Q fuel listed a → wpAnyIn (Fence.wide.inRound l) n P md L.toArray Q' fuel listed a w
  | 0, _, _, _, hw, h => ⟨h.1, hQ _ _ hw h.2⟩
  | fuel + 1, _, _, _, hw, h => ⟨fun h0 => hQ _ _ hw (h.1 h0), fun i hi => qOp_round hnd hw (fun a' w' hw' => wpAny_round hnd hQ fuel _ a' w' hw') (h.2 i hi)⟩
/-- In a round: at a class of worlds f x. -/
theorem wpIn_round_class {X : Type} (f : X → World) (x0 : X) {id : Nat} {Q : Exit → Act → World → Prop} {a : Act} {w : World} {L : List Oper} (hx : w.drew = f x0) (hm : P.follows .mixedOrders = true) (hB : Region.lexB .any L.toArray = true) (hnd : noDefer L = true)
    (h : wpQuiet P L.toArray (fun w' => ∃ x, w' = f x) (fun a' => ∀ w', (∃ x, w' = f x) → Q .normal a' w') L a) : (Code.region id L.toArray true).wpIn (Fence.wide.inRound l) n P Q a w := by
  simp only [Region.lexB, Bool.and_eq_true] at hB
  refine wpIn_region_any hm (wpAny_round (C := fun w' => ∃ x, w' = f x) (Q := fun a' => ∀ w', (∃ x, w' = f x) → Q .normal a' w') hnd (fun _ w' hw' h => h w' hw') _ _ _ _ ⟨x0, hx⟩ ?_)
  have := wpAnyQ_lex (C := fun w' => ∃ x, w' = f x) (md := .any) hB.1 L.toArray.toList 0 (Array.replicate L.toArray.size false) a (by simp) (by simpa using hB.2) h
  simpa using this
/-- In a round: it only reads. -/
theorem wpIn_round_quiet {id : Nat} {Q : Exit → Act → World → Prop} {a : Act} {w : World} {L : List Oper} (hm : P.follows .mixedOrders = true) (hB : Region.lexB .any L.toArray = true) (hnd : noDefer L = true)
    (h : wpQuiet P L.toArray (fun w' => ∃ k, w' = w.drewN k) (fun a' => ∀ w', (∃ k, w' = w.drewN k) → Q .normal a' w') L a) : (Code.region id L.toArray true).wpIn (Fence.wide.inRound l) n P Q a w :=
  wpIn_round_class (fun k => w.drewN k) 1 rfl hm hB hnd h
/-- Outside: at a class of worlds f x. -/
theorem wp_class {X : Type} (f : X → World) (x0 : X) {id : Nat} {Q : Exit → Act → World → Prop} {a : Act} {w : World} {L : List Oper} (hx : w.drew = f x0) (hm : P.follows .mixedOrders = true) (hB : Region.lexB .any L.toArray = true)
    (h : wpQuiet P L.toArray (fun w' => ∃ x, w' = f x) (fun a' => ∀ w', (∃ x, w' = f x) → Q .normal a' w') L a) : (Code.region id L.toArray true).wp P Q a w :=
  wp_region_quiet (C := fun w' => ∃ x, w' = f x) hm hB ⟨x0, hx⟩ (by simpa using h)
end
/-- The worlds in which nothing that was there has turned. -/
def MW (w : World) := { w' : World // Mod [] w w' }
def MW.w {w : World} (x : MW w) : World := x.1
theorem MW.m {w : World} (x : MW w) : Mod [] w x.w := x.2
def MW.drew0 (w : World) : MW w := ⟨w.drew, (Mod.refl [] w).drew⟩
instance (w : World) : Nonempty (MW w) := ⟨MW.drew0 w⟩
theorem MW.cell {w : World} (x : MW w) {b i : Nat} {v : Value} (h : w.cell? ⟨b, i, none⟩ = some v) : x.w.cell? ⟨b, i, none⟩ = some v :=
  (Below.cell (p := ⟨b, i, none⟩) x.m.below' (by simpa using World.block_lt_of_cell? w _ h)).trans h
theorem MW.call {w : World} {P : Program} {f : Nat} {args : Array Value} {v : Value} (x : MW w) (h : Calls P f args x.w fun e w' => e = .returned v ∧ Mod [] x.w w') :
    Calls P f args x.w fun e w'' => e = .returned v ∧ ∃ y : MW w, w'' = y.w :=
  h.mono fun e w'' ⟨he, hm⟩ => ⟨he, ⟨w'', x.m.trans hm (by simp)⟩, rfl⟩
theorem MW.same {w : World} {P : Program} {f : Nat} {args : Array Value} {v : Value} (x : MW w) (h : Calls P f args x.w fun e w' => e = .returned v ∧ x.w = w') :
    Calls P f args x.w fun e w'' => e = .returned v ∧ ∃ y : MW w, w'' = y.w :=
  h.mono fun e w'' ⟨he, hm⟩ => ⟨he, x, hm.symm⟩
end Go.Proofs.Ytnbanbfnabhjjaa
