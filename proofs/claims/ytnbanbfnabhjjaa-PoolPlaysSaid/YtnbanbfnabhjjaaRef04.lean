/- The document's pool (stepstoneref04) in memory: Taken, Len. -/
import Derived.Test.YtnbanbfnabhjjaaPoolG
import Derived.Test.YtnbanbfnabhjjaaPoolA
import Derived.Test.YtnbanbfnabhjjaaSl
namespace Go.Proofs.Ytnbanbfnabhjjaa
open Go.RowKit
set_option linter.unusedVariables false
set_option linter.unusedSimpArgs false
def bcells (l : List Bool) : List Value := l.map Value.bool
/-- The document's pool: V its values, those of freed places too; the rest is the pool's own model. -/
structure RefIn (w : World) (xb : Nat) (vv lv fv : Value) (V : List Int) (s : PS Int) (reads : Int) : Prop where
  blk : Blk w xb 49 #[vv, lv, fv, .int .i64 s.limit, .int .i64 reads]
  vals : Row w 22 1 vv V.length (icells .u64 V)
  live : Row w 4 1 lv s.cells.length (bcells (s.cells.map Option.isSome))
  free : Row w 3 1 fv s.free.length (s.free.map fun i => .int .i64 (i : Nat))
  wf : s.wf
  vlen : V.length = s.cells.length
  vget : ∀ (i : Nat) (v : Int), s.cells[i]? = some (some v) → V[i]? = some v
def RefAt (w : World) (xb : Nat) (F : List Nat) (V : List Int) (s : PS Int) (reads : Int) : Prop := ∃ vv lv fv, F = xb :: (rb vv ++ (rb lv ++ rb fv)) ∧ RefIn w xb vv lv fv V s reads
section
variable {w w' : World} {xb : Nat} {vv lv fv : Value} {V : List Int} {s : PS Int} {reads : Int} {F : List Nat}
theorem RefIn.mod (h : RefIn w xb vv lv fv V s reads) {S : List Nat} (hm : Mod S w w') (hS : ∀ k ∈ S, k ∉ xb :: (rb vv ++ (rb lv ++ rb fv))) : RefIn w' xb vv lv fv V s reads :=
  ⟨h.blk.mod hm (fun hk => hS _ hk (by simp)), h.vals.mod hm (fun k hk hk' => hS k hk' (by simp [hk])), h.live.mod hm (fun k hk hk' => hS k hk' (by simp [hk])), h.free.mod hm (fun k hk hk' => hS k hk' (by simp [hk])), h.wf, h.vlen, h.vget⟩
theorem RefAt.mod (h : RefAt w xb F V s reads) {S : List Nat} (hm : Mod S w w') (hS : ∀ k ∈ S, k ∉ F) : RefAt w' xb F V s reads := by
  obtain ⟨vv, lv, fv, rfl, h⟩ := h; exact ⟨vv, lv, fv, rfl, h.mod hm hS⟩
theorem RefAt.lt (h : RefAt w xb F V s reads) : ∀ k ∈ F, k < w.heap.size := by
  obtain ⟨vv, lv, fv, rfl, h⟩ := h
  intro k hk
  simp only [List.mem_cons, List.mem_append] at hk
  rcases hk with rfl | hk | hk | hk
  · exact h.blk.lt
  · exact h.vals.lt hk
  · exact h.live.lt hk
  · exact h.free.lt hk
theorem RefIn.c1 (h : RefIn w xb vv lv fv V s reads) : w.cell? ⟨xb, 1, none⟩ = some lv := h.blk.cell 1
theorem RefIn.live_at (h : RefIn w xb vv lv fv V s reads) {i : Nat} (hi : i < s.cells.length) : ∃ g cap, lv = .slice (some ⟨g, 0, none⟩) s.cells.length cap ∧ s.cells.length ≤ cap ∧ cap ≤ 9223372036854775807 ∧ g < w.heap.size ∧ w.cell? ⟨g, i, none⟩ = some (.bool (s.get (i : Int)).isSome) := by
  obtain ⟨g, cap, hv, h1, h2, h3, h4, h5, h6⟩ := h.live.at_ (by omega)
  refine ⟨g, cap, hv, h2, h3, h4, ?_⟩
  rw [h5 i (by omega), PS.get_nat]
  simp [bcells, List.getElem?_eq_getElem hi]
set_option maxHeartbeats 400000 in
theorem ref04_taken (i : Int) (h : RefIn w xb vv lv fv V s reads) :
    Calls Try.prog 108 #[.pointer (some ⟨xb, 0, none⟩), .int .i64 i] w fun e w' => e = .returned (.bool (s.get i).isSome) ∧ w = w' := by
  have c1 := h.c1
  by_cases hi : i < 0
  · rw [PS.get_neg _ hi]
    simp only [Option.isSome_none]
    obtain ⟨a, cap, rfl, k1, k2⟩ := h.live.slice_
    clear h
    go_enter Try.func108, Try.ntmps108
    go_wp2
    go_ret
    exact ⟨rfl, rfl⟩
  · obtain ⟨j, rfl⟩ : ∃ j : Nat, i = j := ⟨i.toNat, by omega⟩
    by_cases hj : j < s.cells.length
    · obtain ⟨g, cap, rfl, k1, k2, k3, hc⟩ := h.live_at hj
      generalize (s.get (j : Int)).isSome = b at *
      have hd : decide (j < s.cells.length) = true := by simpa using hj
      clear h
      go_enter Try.func108, Try.ntmps108
      go_wp2
      go_ret
      exact ⟨rfl, rfl⟩
    · obtain ⟨a, cap, rfl, k1, k2⟩ := h.live.slice_
      have hn : s.get (j : Int) = none := by rw [PS.get_nat, List.getElem?_eq_none (by omega)]; rfl
      rw [hn]
      have hd : decide (j < s.cells.length) = false := by simpa using hj
      simp only [Option.isSome_none]
      clear h hn
      go_enter Try.func108, Try.ntmps108
      go_wp2
      go_ret
      exact ⟨rfl, rfl⟩
set_option maxHeartbeats 1000000 in
theorem ref04_len (h : RefIn w xb vv lv fv V s reads) :
    Calls Try.prog 32 #[.pointer (some ⟨xb, 0, none⟩)] w fun e w' => e = .returned (.int .i64 s.live) ∧ w = w' := by
  have c1 := h.c1
  have hwf := h.wf
  obtain ⟨a, cap, rfl, k1, k2⟩ := h.live.slice_
  have hlim : s.cells.length ≤ 1048576 := by have := hwf.lim; have := hwf.len; omega
  have H := Hidden.mk h
  clear h hwf
  go_enter Try.func32, Try.ntmps32
  go_wp2_with fail
  go_loopw [3, 11] (fun nv iv wr => wr = w ∧ ∃ (j c : Nat), j ≤ s.cells.length ∧ c ≤ j ∧ c = (s.cells.take j).countP Option.isSome ∧ iv = .int .i64 j ∧ nv = .int .i64 c) (fun _ iv _ => s.cells.length - (intOf iv).toNat)
  case atStart => exact ⟨rfl, 0, 0, by omega, by omega, by simp, rfl, rfl⟩
  case round =>
    obtain ⟨rfl, j, c, hj, hcj, hc, rfl, rfl⟩ := hrel
    by_cases hlt : j < s.cells.length
    · obtain ⟨g, cap', hv, q1, q2, q3, hb⟩ := H.out.live_at hlt
      injection hv with e1 e2 e3
      subst e1
      have hnext : (s.cells.take (j + 1)).countP Option.isSome = c + (if (s.get (j : Int)).isSome then 1 else 0) := by
        rw [List.take_add_one, List.countP_append, ← hc, PS.get_nat, List.getElem?_eq_getElem hlt]
        cases s.cells[j] <;> simp
      generalize (s.get (j : Int)).isSome = b at *
      have HN := Hidden.mk hnext
      clear hc hnext e2 e3
      cases b with
      | true =>
        go_wp2_with fail
        go_roundw
        case rel => exact ⟨by trivial, j + 1, c + 1, by omega, by omega, by rw [HN.out]; rfl, by go_num, by go_num⟩
        case measure => simp [intOf]; omega
      | false =>
        go_wp2_with fail
        go_roundw
        case rel => exact ⟨by trivial, j + 1, c, by omega, by omega, by rw [HN.out]; rfl, by go_num, rfl⟩
        case measure => simp [intOf]; omega
    · obtain rfl : j = s.cells.length := by omega
      have HC := Hidden.mk hc
      clear hc hlt
      go_wp2_with fail
      go_ret
      exact ⟨by rw [show s.live = c from by rw [HC.out, List.take_length]; rfl]; rfl, rfl⟩
end
end Go.Proofs.Ytnbanbfnabhjjaa
