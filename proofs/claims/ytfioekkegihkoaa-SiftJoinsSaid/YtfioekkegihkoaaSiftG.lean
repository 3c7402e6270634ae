/- sift.told, sift.Less: the closures laid. -/
import Derived.Test.YtfioekkegihkoaaSiftF
namespace Go.Proofs.Ytfioekkegihkoaa
open Go.RowKit Go.Shelf
set_option linter.unusedVariables false
set_option linter.unusedSimpArgs false
/-- A sequence's value: nil, or a function. -/
theorem SeqL.val {w : World} {sv : Value} {l : List Int} {R : List Nat} (h : SeqL w sv l R) : sv = .nilFunc ∨ ∃ g lb, sv = .func (.func g) #[] lb := by
  rcases h with ⟨rfl, _⟩ | ⟨g, lb, rfl, _⟩
  · exact .inl rfl
  · exact .inr ⟨g, lb, rfl⟩
set_option maxRecDepth 100000 in
set_option maxHeartbeats 1000000 in
theorem told_make {w : World} {sv : Value} (hv : sv = .nilFunc ∨ ∃ g lb, sv = .func (.func g) #[] lb) (fi : Nat) (lbi : Array Value) :
    Calls Try.prog 70 #[sv, .func (.func fi) #[] lbi] w fun e w' => e = .returned (.func (.func 104) #[] #[.pointer (some ⟨w.heap.size, 0, none⟩), .pointer (some ⟨w.heap.size + 1, 0, none⟩)]) ∧
      (w.alloc (.cells #[sv] 43)).alloc (.cells #[.func (.func fi) #[] lbi] 32) = w' := by
  rcases hv with rfl | ⟨g, lb, rfl⟩
  all_goals
    go_enter Try.func70, Try.ntmps70
    go_wp2_with fail
    go_ret
    exact ⟨rfl, rfl⟩
set_option maxRecDepth 100000 in
set_option maxHeartbeats 1000000 in
theorem less_make {w : World} {sa sb : Value} (ha : sa = .nilFunc ∨ ∃ g lb, sa = .func (.func g) #[] lb) (hb : sb = .nilFunc ∨ ∃ g lb, sb = .func (.func g) #[] lb) :
    Calls Try.prog 28 #[sa, sb] w fun e w' => e = .returned (.func (.func 73) #[] #[.pointer (some ⟨w.heap.size + 1, 0, none⟩), .pointer (some ⟨w.heap.size, 0, none⟩)]) ∧
      (w.alloc (.cells #[sa] 43)).alloc (.cells #[sb] 43) = w' := by
  rcases ha with rfl | ⟨g, lb, rfl⟩ <;> rcases hb with rfl | ⟨g', lb', rfl⟩
  all_goals
    go_enter Try.func28, Try.ntmps28
    go_wp2_with fail
    go_ret
    exact ⟨rfl, rfl⟩
/-- A question of Less: is a key, told rising, not in the other list? Its box holds what is left of that list. -/
def LessInv (Bo : Nat) (rw0 : List Nat) (m : List Int) (l : List Int) (j : Nat) (W : World) : Prop :=
  ∃ v r, Blk W Bo 23 #[v] ∧ ISl .u64 W v (m.drop r) ∧ (∀ b ∈ rbl v (m.drop r), b ∈ rw0) ∧ (∀ i x, j ≤ i → l[i]? = some x → rk m x ≥ r)
end Go.Proofs.Ytfioekkegihkoaa
