/- A region in an open order whose operations give the same values in every world of a class: one walk in the order of the text. No program in sight. -/
import Derived.Test.YtfioekkegihkoaaGLib
import Derived.Deep.Quiet
import Derived.Deep.QuietTactic
import Derived.BigQuiet
set_option linter.unusedVariables false
set_option linter.unusedSimpArgs false
namespace Go.Proofs.Ytfioekkegihkoaa
open Go.RowKit
section
variable {P : Program} {C : World → Prop}
/-- Outside: at a class of worlds f x. -/
theorem wp_class {X : Type} (f : X → World) (x0 : X) {id : Nat} {Q : Exit → Act → World → Prop} {a : Act} {w : World} {L : List Oper} (hx : w.drew = f x0) (hm : P.follows .mixedOrders = true) (hB : Region.lexB .any L.toArray = true)
    (h : wpQuiet P L.toArray (fun w' => ∃ x, w' = f x) (fun a' => ∀ w', (∃ x, w' = f x) → Q .normal a' w') L a) : (Code.region id L.toArray true).wp P Q a w :=
  wp_region_quiet (C := fun w' => ∃ x, w' = f x) hm hB ⟨x0, hx⟩ (by simpa using h)
end
/-- The worlds in which nothing that was there has turned. -/
def MW (w : World) := { w' : World // Mod [] w w' }
def MW.w {w : World} (x : MW w) : World := x.1
theorem MW.m {w : World} (x : MW w) : Mod [] w x.w := x.2
def MW.drew0 (w : World) : MW w := ⟨w.drew, (Mod.refl [] w).drew⟩
instance (w : World) : Nonempty (MW w) := ⟨MW.drew0 w⟩
theorem MW.cell {w : World} (x : MW w) {b i : Nat} {v : Value} (h : w.cell? ⟨b, i, none⟩ = some v) : x.w.cell? ⟨b, i, none⟩ = some v :=
  (Below.cell (p := ⟨b, i, none⟩) x.m.below' (by simpa using World.block_lt_of_cell? w _ h)).trans h
theorem MW.call {w : World} {P : Program} {f : Nat} {args : Array Value} {v : Value} (x : MW w) (h : Calls P f args x.w fun e w' => e = .returned v ∧ Mod [] x.w w') :
    Calls P f args x.w fun e w'' => e = .returned v ∧ ∃ y : MW w, w'' = y.w :=
  h.mono fun e w'' ⟨he, hm⟩ => ⟨he, ⟨w'', x.m.trans hm (by simp)⟩, rfl⟩
theorem MW.same {w : World} {P : Program} {f : Nat} {args : Array Value} {v : Value} (x : MW w) (h : Calls P f args x.w fun e w' => e = .returned v ∧ x.w = w') :
    Calls P f args x.w fun e w'' => e = .returned v ∧ ∃ y : MW w, w'' = y.w :=
  h.mono fun e w'' ⟨he, hm⟩ => ⟨he, x, hm.symm⟩
theorem MW.eqw {w : World} {P : Program} {f : Nat} {args : Array Value} {v : Value} (x : MW w) (h : Calls P f args x.w fun e w' => e = .returned v ∧ w' = x.w) :
    Calls P f args x.w fun e w'' => e = .returned v ∧ ∃ y : MW w, w'' = y.w := h.mono fun e w'' ⟨he, hm⟩ => ⟨he, x, hm⟩
theorem MW.drawn {w : World} {P : Program} {f : Nat} {args : Array Value} {v : Value} (x : MW w) (h : Calls P f args x.w fun e w' => e = .returned v ∧ ∃ q, w' = x.w.drewN q) :
    Calls P f args x.w fun e w'' => e = .returned v ∧ ∃ y : MW w, w'' = y.w := h.mono fun e w'' ⟨he, q, hm⟩ => ⟨he, ⟨w'', by rw [hm]; exact x.m.drewN q⟩, rfl⟩
end Go.Proofs.Ytfioekkegihkoaa
