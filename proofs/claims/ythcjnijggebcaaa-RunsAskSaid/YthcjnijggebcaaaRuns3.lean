/- runs.List. -/
import Derived.Test.YthcjnijggebcaaaRuns2
import Derived.Test.YthcjnijggebcaaaPart
namespace Go.Proofs.Ythcjnijggebcaaa
open Go.RowKit
set_option linter.unusedVariables false
set_option linter.unusedSimpArgs false
theorem runs_u16 : (Try.prog.info? 24).map (fun i => (i.zero, i.size, i.bytes)) = some (some (.int .u16 0), 1, 2) := by kernel_rfl
/-- The first j numbers from p on. -/
def fromL (p : Int) (j : Nat) : List Int := (List.range j).map (fun i : Nat => p + i)
theorem fromL_len (p : Int) (j : Nat) : (fromL p j).length = j := by simp [fromL]
theorem fromL_step (p : Int) (j : Nat) : fromL p (j + 1) = fromL p j ++ [p + j] := by simp [fromL, List.range_succ]
/-- The numbers of runs, in order. -/
def rlist (l : List (Int × Int)) : List Int := l.flatMap (fun r => fromL r.1 (r.2 + 1 - r.1).toNat)
theorem rlist_step {l : List (Int × Int)} {i : Nat} {r : Int × Int} (h : l[i]? = some r) : rlist (l.take (i + 1)) = rlist (l.take i) ++ fromL r.1 (r.2 + 1 - r.1).toNat := by
  unfold rlist; rw [List.take_add_one, h]; simp
theorem rlist_le {l : List (Int × Int)} (h : R16 l) : ∀ i, i ≤ l.length → (rlist (l.take i)).length ≤ 65536 * i := by
  intro i
  induction i with
  | zero => intro _; simp [rlist]
  | succ i ih =>
    intro hi
    have h1 := ih (by omega)
    have hx : l[i]? = some l[i] := List.getElem?_eq_getElem (by omega)
    obtain ⟨h3, h4, h5, h6⟩ := h l[i] (List.getElem_mem _)
    rw [rlist_step hx, List.length_append, fromL_len]
    omega
set_option maxHeartbeats 2000000 in
set_option maxRecDepth 100000 in
theorem list_runs {w : World} {v : Value} {l : List (Int × Int)} (h : RSl w v l) (hr : R16 l) (hl : l.length ≤ 100000) :
    Calls Try.prog 21 #[v] w (RowOnly .u16 24 w (rlist l)) := by
  obtain ⟨a, cap, rfl, _⟩ := h.slice_
  have H := Hidden.mk h
  have HR := Hidden.mk hr
  clear h hr
  go_enter Try.func21, Try.ntmps21
  go_wp2_with fail
  go_loopw [3, 9] (fun vo vi wr => ∃ i : Nat, i ≤ l.length ∧ vi = .int .i64 i ∧ WayI .u16 24 w wr vo (rlist (l.take i)).length (rlist (l.take i))) (fun _ vi _ => l.length - (intOf vi).toNat)
  case atStart => exact ⟨0, by omega, rfl, WayI.nil_ (Mod.refl [] w)⟩
  case round =>
    obtain ⟨i, hi, rfl, hW⟩ := hrel
    obtain ⟨wq, hwq⟩ : ∃ x : World, x = wr := ⟨_, rfl⟩
    subst hwq
    by_cases hin : i < l.length
    · obtain ⟨b, off, p, q, rfl, hbl, hx, hc1, hc2⟩ := (H.out.news hW.mod).get hin
      have hb := HR.out (p, q) (List.mem_of_getElem? hx)
      obtain ⟨hp0, hp1, hq0, hq1⟩ : 0 ≤ p ∧ p < 65536 ∧ 0 ≤ q ∧ q < 65536 := hb
      have E := Hidden.mk (rlist_step hx)
      have hle := rlist_le HR.out i hi
      have HW := Hidden.mk (hW.alloc (.cells #[.int .u16 p, .int .u16 q] 34))
      have hpw : IntKind.i64.wrap p = p := IntWalk.i64_in _ (by omega)
      have hqw : IntKind.i64.wrap q = q := IntWalk.i64_in _ (by omega)
      have HLT := Hidden.mk (fun (k : Nat) hk => Nat.ne_of_lt (hW.row.lt (k := k) hk))
      clear hx hW
      obtain ⟨L, hL⟩ : ∃ L, rlist (l.take i) = L := ⟨_, rfl⟩
      rw [hL] at E HW hle
      clear hL
      obtain ⟨c, hc⟩ : ∃ c, (q + 1 - p).toNat = c := ⟨_, rfl⟩
      have hc3 : c = (q + 1 - p).toNat := hc.symm
      have HC := Hidden.mk hc3
      rw [show ((p, q) : Int × Int).2 = q from rfl, show ((p, q) : Int × Int).1 = p from rfl, hc] at E
      clear hc hc3
      have K2 : Hidden (∀ W, Mod [] (wq.alloc (.cells #[.int .u16 p, .int .u16 q] 34)) W → W.cell? ⟨wq.heap.size, 1, none⟩ = some (.int .u16 q)) := ⟨fun W hW => (Below.cell (p := ⟨wq.heap.size, 1, none⟩) hW.below' (by simp)).trans ((Blk.new wq 34 #[.int .u16 p, .int .u16 q]).cell 1)⟩
      go_wp2_with fail
      go_loopw [3, 6] (fun vo vi w3 => ∃ j : Nat, j ≤ c ∧ vi = .int .i64 (p + j) ∧ WayI .u16 24 w w3 vo (L.length + j) (L ++ fromL p j) ∧ (∀ k ∈ rb vo, k ≠ wq.heap.size) ∧ wq.heap.size < w3.heap.size ∧ w3.cell? ⟨wq.heap.size, 1, none⟩ = some (.int .u16 q)) (fun _ vi _ => (q + 1 - intOf vi).toNat)
      case atStart => exact ⟨0, by omega, by simp, by simpa [fromL] using HW.out, HLT.out, by simp, K2.out _ (Mod.refl [] _)⟩
      case round =>
        obtain ⟨j, hj, rfl, hW, hne, hlt, hcell⟩ := hrel
        by_cases hjc : j < c
        · have hjq : p + (j : Int) ≤ q := by have := HC.out; omega
          have hj6 : j ≤ 65536 := by have := HC.out; omega
          have hwv : IntKind.u16.wrap (p + (j : Int)) = p + j := by rw [IntKind.wrap_u16]; omega
          have hw1 : IntKind.i64.wrap (p + (j : Int) + 1) = p + j + 1 := IntWalk.i64_in _ (by omega)
          have hd := Hidden.mk (icells_snoc .u16 (L ++ fromL p j) (p + j))
          have hw2 := Hidden.mk (hW.alloc (.cells #[.int .u16 (p + j)] 24))
          have hn1 := Hidden.mk (holds_one wr (.int .u16 (p + j)) 24 rfl)
          have HNE := Hidden.mk (And.intro hne (And.intro hlt hcell))
          clear hW hne
          go_wp2_with (refine wpList_any rfl (.tmp 23) (.tmp 26) 22 rfl 24 (.int .u16 0) 1 2 (by kernel_rfl) runs_u16 rfl (by decide) _ _ _ rfl hw2.out.row _ _ _ rfl hn1.out (by simp [Value.oneCell']) (by omega) (by omega) ?_; intro b4 c4 w4 hr4 hm4 hf4; have hW4 := Hidden.mk (hw2.out.next hr4 hm4 hf4 hd.out); have hm5 := Hidden.mk (And.intro (fun k hk => (hf4 k hk).elim (HNE.out.1 k) (fun h => by have := HNE.out.2.1; simp at h; omega) : ∀ k ∈ rb _, k ≠ wq.heap.size) (And.intro (Nat.lt_of_lt_of_le (by have := HNE.out.2.1; simp; omega) hm4.size : wq.heap.size < w4.heap.size) (show w4.cell? ⟨wq.heap.size, 1, none⟩ = some (.int .u16 q) from by have e := hm4.block wq.heap.size (by have := HNE.out.2.1; simp; omega) (fun h => HNE.out.1 _ h rfl); have h0 := (Below.cell (p := ⟨wq.heap.size, 1, none⟩) ((Mod.refl [] wr).alloc (.cells #[.int .u16 (p + j)] 24)).below' HNE.out.2.1).trans HNE.out.2.2; rw [← h0]; unfold World.cell?; simp only [e]))); clear hr4 hm4 hf4 hw2)
          go_roundw
          case rel => exact ⟨j + 1, by omega, by rw [show p + ((j + 1 : Nat) : Int) = p + j + 1 from by omega], by rw [fromL_step, ← List.append_assoc]; exact hW4.out, hm5.out.1, hm5.out.2.1, hm5.out.2.2⟩
          case measure => simp [intOf]; omega
        · obtain rfl : j = c := by omega
          have hjq : decide (p + (j : Int) ≤ q) = false := decide_eq_false (by have := HC.out; omega)
          have HW2 : Hidden (WayI .u16 24 w wr _ (rlist (l.take (i + 1))).length (rlist (l.take (i + 1)))) := ⟨by rw [E.out, List.length_append, fromL_len]; exact hW⟩
          clear hW hne hlt hjc
          go_wp2_with fail
          go_roundw
          case rel => exact ⟨i + 1, by omega, by go_num, HW2.out⟩
          case measure => simp [intOf]; omega
    · have e : i = l.length := by omega
      subst e
      rw [List.take_length] at hW
      have HW := Hidden.mk hW
      clear hW
      go_wp2_with fail
      go_ret
      exact ⟨_, rfl, HW.out⟩
end Go.Proofs.Ythcjnijggebcaaa
