/- What the table's iterator calls: Compare at bytes and at words, Or at two, the closure that compares two entries, the one that tells an empty place. -/
import Derived.Test.YtnbanbfnabhjjaaHash2
import Derived.Test.YtnbanbfnabhjjaaShelf
import Derived.Test.YtnbanbfnabhjjaaLib
import Derived.Deep.QuietTactic
import Derived.BigQuiet
import Derived.StillTailTactics
namespace Go.Proofs.Ytnbanbfnabhjjaa
open Go.RowKit Go.Shelf Go.Sort
set_option linter.unusedVariables false
set_option linter.unusedSimpArgs false
def cmpI (a b : Int) : Int := if a < b then -1 else if b < a then 1 else 0
theorem nan_u8 (x : Int) (w : World) : Calls Try.prog 128 #[.int .u8 x] w fun e w' => e = .returned (.bool false) ∧ w' = w := by
  go_enter Try.func128, Try.ntmps128
  go_wp2
  go_ret
  exact ⟨rfl, rfl⟩
theorem nan_u64 (x : Int) (w : World) : Calls Try.prog 129 #[.int .u64 x] w fun e w' => e = .returned (.bool false) ∧ w' = w := by
  go_enter Try.func129, Try.ntmps129
  go_wp2
  go_ret
  exact ⟨rfl, rfl⟩
set_option maxHeartbeats 400000 in
theorem cmp_u8 (x y : Int) (w : World) : Calls Try.prog 120 #[.int .u8 x, .int .u8 y] w fun e w' => e = .returned (.int .i64 (cmpI x y)) ∧ w' = w := by
  rcases (show x < y ∨ y < x ∨ x = y by omega) with h | h | rfl
  · have h2 : ¬ y < x := by omega
    go_enter Try.func120, Try.ntmps120
    go_wp2_with (go_at_call 128; refine (nan_u8 _ _).mono ?_; rintro e w' ⟨rfl, rfl⟩)
    go_ret
    exact ⟨by simp [cmpI, h], rfl⟩
  · have h2 : ¬ x < y := by omega
    go_enter Try.func120, Try.ntmps120
    go_wp2_with (go_at_call 128; refine (nan_u8 _ _).mono ?_; rintro e w' ⟨rfl, rfl⟩)
    go_ret
    exact ⟨by simp [cmpI, h, h2], rfl⟩
  · go_enter Try.func120, Try.ntmps120
    go_wp2_with (go_at_call 128; refine (nan_u8 _ _).mono ?_; rintro e w' ⟨rfl, rfl⟩)
    go_ret
    exact ⟨by simp [cmpI], rfl⟩
set_option maxHeartbeats 400000 in
theorem cmp_u64 (x y : Int) (w : World) : Calls Try.prog 121 #[.int .u64 x, .int .u64 y] w fun e w' => e = .returned (.int .i64 (cmpI x y)) ∧ w' = w := by
  rcases (show x < y ∨ y < x ∨ x = y by omega) with h | h | rfl
  · have h2 : ¬ y < x := by omega
    go_enter Try.func121, Try.ntmps121
    go_wp2_with (go_at_call 129; refine (nan_u64 _ _).mono ?_; rintro e w' ⟨rfl, rfl⟩)
    go_ret
    exact ⟨by simp [cmpI, h], rfl⟩
  · have h2 : ¬ x < y := by omega
    go_enter Try.func121, Try.ntmps121
    go_wp2_with (go_at_call 129; refine (nan_u64 _ _).mono ?_; rintro e w' ⟨rfl, rfl⟩)
    go_ret
    exact ⟨by simp [cmpI, h, h2], rfl⟩
  · go_enter Try.func121, Try.ntmps121
    go_wp2_with (go_at_call 129; refine (nan_u64 _ _).mono ?_; rintro e w' ⟨rfl, rfl⟩)
    go_ret
    exact ⟨by simp [cmpI], rfl⟩
set_option maxHeartbeats 400000 in
theorem or2 (b : Nat) (x y : Int) (w : World) (h0 : w.cell? ⟨b, 0, none⟩ = some (.int .i64 x)) (h1 : w.cell? ⟨b, 1, none⟩ = some (.int .i64 y)) :
    Calls Try.prog 119 #[.slice (some ⟨b, 0, none⟩) 2 2] w fun e w' => e = .returned (.int .i64 (if x = 0 then y else x)) ∧ w' = w := by
  go_enter Try.func119, Try.ntmps119
  go_wp2
  go_loop [8] (fun i => ∃ k : Nat, k ≤ 2 ∧ i = .int .i64 k ∧ (1 ≤ k → x = 0) ∧ (2 ≤ k → y = 0)) (fun i => 2 - (intOf i).toNat)
  case atStart => exact ⟨0, by omega, rfl, by omega, by omega⟩
  case round =>
    obtain ⟨k, hk, rfl, hx, hy⟩ := hrel
    rcases (show k = 0 ∨ k = 1 ∨ k = 2 by omega) with rfl | rfl | rfl
    · clear hx hy
      by_cases hx0 : x = 0
      · subst hx0
        go_wp2
        go_round
        case rel => exact ⟨1, by omega, rfl, by simp, by omega⟩
        case measure => simp [intOf]
      · have hne : (x != 0) = true := by simp [hx0]
        go_wp2
        go_ret
        exact ⟨rfl, rfl⟩
    · have hx0 := hx (by omega)
      clear hx hy
      subst hx0
      by_cases hy0 : y = 0
      · subst hy0
        go_wp2
        go_round
        case rel => exact ⟨2, by omega, rfl, by simp, by simp⟩
        case measure => simp [intOf]
      · have hne : (y != 0) = true := by simp [hy0]
        go_wp2
        go_ret
        exact ⟨rfl, rfl⟩
    · have hx0 := hx (by omega)
      have hy0 := hy (by omega)
      clear hx hy
      subst hx0 hy0
      go_wp2
      go_ret
      exact ⟨rfl, rfl⟩
/-- The order of entries: by level, then by prefix. -/
def cfE (x y : HK × Int) : Int := if cmpI x.1.1 y.1.1 = 0 then cmpI x.1.2 y.1.2 else cmpI x.1.1 y.1.1
def encF (x : HK × Int) : List Value := [.int .u8 x.1.1, .int .u64 x.1.2, .int .u64 x.2, .bool true]
set_option maxRecDepth 100000 in
set_option maxHeartbeats 1000000 in
theorem cmp_entry (x y : HK × Int) (w : World) : Calls Try.prog 118 #[.agg (encF x).toArray, .agg (encF y).toArray] w fun e w' => e = .returned (.int .i64 (cfE x y)) ∧ ∃ q os, w' = grow (w.drewN q) os := by
  obtain ⟨⟨a, b⟩, c⟩ := x
  obtain ⟨⟨a', b'⟩, c'⟩ := y
  have h1 := cmp_u8 a a'
  have h2 := cmp_u64 b b'
  unfold encF cfE
  simp only
  generalize cmpI a a' = p at *
  generalize cmpI b b' = q at *
  have hor := fun b w h0 h1 => or2 b p q w h0 h1
  generalize (if p = 0 then q else p) = r at *
  go_enter Try.func118, Try.ntmps118
  go_wp2
  refine wp_tail 14 (by kernel_rfl) (by kernel_rfl) ?_
  simp only [List.take_succ_cons, List.take_zero, List.drop_succ_cons, List.drop_zero]
  iterate 6 still_step
  still_call (h1 _)
  iterate 6 still_step
  still_call (h2 _)
  refine wpStill_nil ?_
  go_wp2_with fail
  have hb := (Blk.new' (w := (w.alloc (.cells #[.int .u8 a, .int .u64 b, .int .u64 c, .bool true] 123)).alloc (.cells #[.int .u8 a', .int .u64 b', .int .u64 c', .bool true] 123)) (b := w.heap.size + 1 + 1) (by simp) 3 #[.int .i64 p, .int .i64 q]).drew
  refine (hor _ _ (hb.cell 0) (hb.cell 1)).mono ?_; rintro e w' ⟨rfl, hw'⟩
  clear hb
  go_wp2_with fail
  go_ret
  exact ⟨rfl, 1, #[.cells #[.int .u8 a, .int .u64 b, .int .u64 c, .bool true] 123, .cells #[.int .u8 a', .int .u64 b', .int .u64 c', .bool true] 123, .cells #[.int .i64 p, .int .i64 q] 3], by rw [alloc_eq_grow, alloc_eq_grow, alloc_eq_grow, grow_grow, grow_grow]; rfl⟩
theorem cmpLays_entry (blk off size : Nat) (w : World) : CmpLays Try.prog 118 #[] encF 4 cfE blk off size w := fun _ _ _ _ x y => cmp_entry x y _
theorem ltE (x y : HK × Int) : ltOf cfE x y = (decide (x.1.1 < y.1.1) || (decide (x.1.1 = y.1.1) && decide (x.1.2 < y.1.2))) := by
  unfold ltOf cfE cmpI
  by_cases h1 : x.1.1 < y.1.1
  · simp [h1]
  · by_cases h2 : y.1.1 < x.1.1
    · have h3 : ¬ x.1.1 = y.1.1 := by omega
      simp [h1, h2, h3]
    · have h3 : x.1.1 = y.1.1 := by omega
      by_cases h4 : x.1.2 < y.1.2
      · simp [h3, h4]
      · by_cases h5 : y.1.2 < x.1.2 <;> simp [h3, h4, h5]
theorem swoE : SWO (ltOf cfE) where
  irrefl x := by rw [ltE]; simp
  trans x y z h1 h2 := by rw [ltE] at *; simp at *; omega
  ntrans x y z h1 h2 := by rw [ltE] at *; simp at *; omega
set_option maxHeartbeats 400000 in
theorem del_entry (o : Option (HK × Int)) (w : World) : Calls Try.prog 116 #[.agg (encE o).toArray] w fun e w' => e = .returned (.bool (!o.isSome)) ∧ w.alloc (.cells (encE o).toArray 123) = w' := by
  cases o
  all_goals
    simp only [encE]
    go_enter Try.func116, Try.ntmps116
    go_wp2
    go_ret
    exact ⟨rfl, rfl⟩
/-- slices.SortFunc at entries. -/
theorem sort_entries (blk off cap : Nat) (d : Array (HK × Int)) (w : World) (hH : HoldsK encF 4 w blk off d) (hblk : blk < w.heap.size) (hsz : d.size < 4611686018427387904) :
    Calls Try.prog 117 #[.slice (some ⟨blk, off, none⟩) d.size cap, .func (.func 118) #[] #[]] w fun e w' =>
      e = .returned (.tuple #[]) ∧ ∃ d' n os, PermIn 0 d.size d d' ∧ SortedIn (ltOf cfE) 0 d.size d' ∧ w' = sortWorldK encF 4 w blk off n d' os :=
  AnyQ.slices_SortFunc Try.laysSlF06_f117 4 (fun w => by kernel_rfl) (fun w => by kernel_rfl) encF (fun _ => rfl) (fun x v hv => by simp [encF] at hv; rcases hv with rfl | rfl | rfl | rfl <;> rfl) cfE swoE 118 #[] blk off cap d w (enters_of Try.func118 (by kernel_rfl) rfl) (cmpLays_entry blk off d.size w) hH hblk hsz
end Go.Proofs.Ytnbanbfnabhjjaa
