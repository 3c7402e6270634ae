/- The pool's iterator: what a range over it is told. -/
import Derived.Test.YtnbanbfnabhjjaaKeep
import Derived.Test.YtnbanbfnabhjjaaPoolA
import Derived.Test.YtnbanbfnabhjjaaPoolG
import Derived.Shelf.Abstract
import Derived.Shelf.RegionOpen
import Derived.OwnWalkIn
import Derived.TacticsInMore
import Derived.LoopNIn
import Derived.LoopIn
namespace Go.Proofs.Ytnbanbfnabhjjaa
open Go.RowKit Go.Shelf
attribute [local go_sem] Oper.semAt_some
set_option linter.unusedVariables false
set_option linter.unusedSimpArgs false
/-- What is told of places from i on. -/
def toldP : List (Option Int) → Nat → List (Nat × Int)
  | [], _ => []
  | some v :: l, i => (i, v) :: toldP l (i + 1)
  | none :: l, i => toldP l (i + 1)
theorem toldP_len (l : List (Option Int)) (i : Nat) : (toldP l i).length = l.countP Option.isSome := by
  induction l generalizing i with
  | nil => rfl
  | cons o l ih => cases o <;> simp [toldP, ih]
theorem toldP_app (l l' : List (Option Int)) (i : Nat) : toldP (l ++ l') i = toldP l i ++ toldP l' (i + l.length) := by
  induction l generalizing i with
  | nil => simp [toldP]
  | cons o l ih => cases o <;> simp [toldP, ih, Nat.add_assoc, Nat.add_comm 1]
set_option maxRecDepth 100000 in
set_option maxHeartbeats 2000000 in
theorem pool_stops (n : Nat) (hn : 1 ≤ n) (w : World) (pb mb Bn : Nat) (F C : List Nat) (s : PS Int) (h : PoolAt TU w pb mb F s) (hb : w.cell? ⟨Bn, 0, none⟩ = some (.pointer (some ⟨pb, 0, none⟩)))
    (hF : ∀ k ∈ F, k ∉ C) (hBn : Bn ∉ C) (hC : ∀ k ∈ C, k < w.heap.size) :
    SeqStopsK Fence.wide n Try.prog 79 #[.pointer (some ⟨Bn, 0, none⟩)] (fun e : Nat × Int => #[.int .i64 e.1, .int .u64 e.2]) (KpC C) (fun xs => xs = toldP s.cells 0) (fun pre => pre <+: toldP s.cells 0) s.live w := by
  intro l J Jx W hW hJ hJx hY h0
  have hWC : ∀ k ∈ C, k < W.heap.size := fun k hk => Nat.lt_of_lt_of_le (hC k hk) hW.size
  have h1 := h.mod (Mod.of_below hW) (by simp)
  have hBlt : Bn < w.heap.size := by simpa using World.block_lt_of_cell? w _ hb
  have hb1 : W.cell? ⟨Bn, 0, none⟩ = some (.pointer (some ⟨pb, 0, none⟩)) := (hW.cell (p := ⟨Bn, 0, none⟩) hBlt).trans hb
  obtain ⟨cv, fv, hFe, h2⟩ := h1
  have c1 := h2.c1
  obtain ⟨a, cap, rfl, k1, k2⟩ := h2.cells.slice_
  have hlim : s.cells.length ≤ 1048576 := by have := h2.wf.lim; have := h2.wf.len; omega
  have HC := Hidden.mk (And.intro hWC (And.intro hF (And.intro hBn hFe)))
  have HS := Hidden.mk (And.intro h2 (And.intro h0 hJ))
  have HY := Hidden.mk hY
  have HJX := Hidden.mk hJx
  clear h hb hW hC hWC h2 h0 hJ hY hJx hF hBn hBlt hFe
  refine callsIn_of_wp Try.func79 rfl trivial ?_ rfl
  simp only [Try.ntmps79, List.size_toArray, List.length_cons, List.length_nil, Nat.reduceAdd, Nat.reduceSub, Array.replicate_succ, Array.replicate_zero, List.push_toArray, List.append_toArray, List.nil_append, List.cons_append]
  gi_wp2
  clear hb1 c1
  gi_loopw [12] (fun p wr => ∃ j : Nat, j ≤ s.cells.length ∧ p = .int .i64 j ∧ PoolIn TU wr pb mb (.slice a s.cells.length cap) fv s ∧ W.heap.size ≤ wr.heap.size ∧ J (toldP (s.cells.take j) 0) wr) (fun p _ => s.cells.length - (intOf p).toNat)
  case atStart => exact ⟨0, by omega, rfl, HS.out.1, Nat.le_refl _, HS.out.2.1⟩
  case round =>
    obtain ⟨j, hj, rfl, hP, hsz, hJ0⟩ := hrel
    by_cases hlt : j < s.cells.length
    · have hsj : s.cells[j]? = some s.cells[j] := List.getElem?_eq_getElem hlt
      obtain ⟨g, cap', hv, g1, g2, g3, g4, g5, g6, g7⟩ := hP.at_ (by omega)
      injection hv with e1 e2 e3
      subst e1
      have hc0 := g6 j 0 _ hsj (by simp [TU])
      have hc1 := g6 j 1 _ hsj (by simp [TU])
      rw [show TU.sz + 1 = 2 from rfl] at hc0 hc1
      have htake : s.cells.take (j + 1) = s.cells.take j ++ [s.cells[j]] := by rw [List.take_add_one, hsj]; rfl
      have hlenj : (s.cells.take j).length = j := by simp; omega
      have hcnt : (s.cells.take (j + 1)).countP Option.isSome ≤ s.live := by
        unfold PS.live; conv => rhs; rw [← List.take_append_drop (j + 1) s.cells]
        rw [List.countP_append]; omega
      generalize s.cells[j] = o at *
      cases o with
      | none =>
        simp only [PT.cell, TU, List.singleton_append, Nat.add_zero, List.getElem?_cons_zero, List.getElem?_cons_succ] at hc0 hc1
        have hnext : toldP (s.cells.take (j + 1)) 0 = toldP (s.cells.take j) 0 := by rw [htake, toldP_app]; simp [toldP]
        have HE := Hidden.mk (And.intro hP (And.intro hJ0 hnext))
        clear hP hJ0 hnext hsj g6 g7 g1 htake hcnt e2 e3 hlenj
        gi_wp2
        refine ⟨fun _ h => (by cases h), ?_⟩
        gi_wp2
        go_roundw
        case rel => exact ⟨j + 1, by omega, by go_num, HE.out.1.mod ((Mod.refl [] wr).alloc _) (by simp), by simp; omega, by rw [HE.out.2.2]; exact AbidesFrom.mod HS.out.2.2 HE.out.2.1 ((Mod.refl [] wr).alloc _)⟩
        case measure => simp [intOf]; omega
      | some v =>
        simp only [PT.cell, TU, List.singleton_append, Nat.add_zero, List.getElem?_cons_zero, List.getElem?_cons_succ] at hc0 hc1
        have hnext : toldP (s.cells.take (j + 1)) 0 = toldP (s.cells.take j) 0 ++ [(j, v)] := by rw [htake, toldP_app, hlenj]; simp [toldP]
        have hpl : (toldP (s.cells.take j) 0).length < s.live := by
          have h1 := congrArg List.length hnext
          rw [toldP_len] at h1; simp at h1; omega
        have hJ1 := AbidesFrom.mod HS.out.2.2 hJ0 ((Mod.refl [] wr).alloc (.cells #[.int .u64 v, .bool true] 115))
        obtain ⟨fn, tmps, assign, body, hy, hR⟩ := HY.out _ (j, v) _ hJ1 hpl
        have hpre : toldP s.cells 0 = toldP (s.cells.take (j + 1)) 0 ++ toldP (s.cells.drop (j + 1)) (j + 1) := by
          conv => lhs; rw [← List.take_append_drop (j + 1) s.cells]
          rw [toldP_app]; congr 1; simp; congr 1; omega
        have HE := Hidden.mk (And.intro hP (And.intro hnext hpre))
        clear hP hJ0 hJ1 hnext hsj g6 g7 g1 htake hcnt e2 e3 hlenj hpre hpl
        dsimp only at hy
        gi_wp2
        refine hR.mono ?_
        clear hR hy
        rintro e W3 (⟨rfl, hJ3, hk3⟩ | ⟨rfl, hJx3⟩)
        · have hP3 : PoolIn TU W3 pb mb (.slice (some ⟨g, 0, none⟩) s.cells.length cap) fv s := by
            have h := HE.out.1.mod ((Mod.refl [] wr).alloc (.cells #[.int .u64 v, .bool true] 115)) (by simp)
            have hF := HC.out.2.1
            rw [HC.out.2.2.2] at hF
            exact ⟨h.blk.kp hk3 (hF _ (by simp)), h.cells.kp hk3 (fun k hk => hF k (by simp [hk])), h.free.kp hk3 (fun k hk => hF k (by simp [hk])), h.wf⟩
          have hs3 : W.heap.size ≤ W3.heap.size := by have h1 := hk3.1; simp at h1; omega
          have H3 := Hidden.mk (And.intro hJ3 (And.intro hP3 hs3))
          clear hJ3 hP3 hs3 hk3
          gi_wp2
          go_roundw
          case rel => exact ⟨j + 1, by omega, by go_num, H3.out.2.1, H3.out.2.2, by rw [HE.out.2.1]; exact H3.out.1⟩
          case measure => simp [intOf]; omega
        · have HX := Hidden.mk hJx3
          clear hJx3
          gi_wp2
          refine bodyPost_ret (results_none rfl _ _ _) rfl ?_
          exact ⟨⟨_, rfl⟩, .inr ⟨_, ⟨toldP (s.cells.drop (j + 1)) (j + 1), by rw [HE.out.2.2, HE.out.2.1]⟩, HX.out⟩⟩
    · obtain rfl : j = s.cells.length := by omega
      have HE := Hidden.mk hJ0
      clear hP hJ0 hlt
      gi_wp2
      go_end0
      exact ⟨⟨_, rfl⟩, .inl ⟨_, by rw [List.take_length], HE.out⟩⟩
end Go.Proofs.Ytnbanbfnabhjjaa
