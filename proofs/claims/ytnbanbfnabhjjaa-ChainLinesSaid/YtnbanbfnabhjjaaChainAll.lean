/- The chain's iterator: what a range over it is told. -/
import Derived.Test.YtnbanbfnabhjjaaChain4
import Derived.Test.YtnbanbfnabhjjaaKeep
import Derived.Shelf.Abstract
import Derived.Shelf.RegionOpen
import Derived.OwnWalkIn
import Derived.TacticsInMore
import Derived.LoopNIn
import Derived.LoopIn
namespace Go.Proofs.Ytnbanbfnabhjjaa
open Go.RowKit Go.Shelf
attribute [local go_sem] Oper.semAt_some
set_option linter.unusedVariables false
set_option linter.unusedSimpArgs false
theorem ChainAt.kp {W W' : World} {cb mb limit : Nat} {F C : List Nat} {fr : Bool} {L : CL} (h : ChainAt W cb mb F limit fr L) (hk : KpC C W W') (hF : ∀ k ∈ F, k ∉ C) : ChainAt W' cb mb F limit fr L := by
  obtain ⟨pb, Fp, s, rfl, h1, h2, h3⟩ := h
  exact ⟨pb, Fp, s, rfl, h1.kp hk (hF _ (by simp)), h2.kp hk (fun k hk => hF k (by simp [hk])), h3⟩
theorem chain_peek {w : World} {cb mb limit : Nat} {F : List Nat} {fr : Bool} {A B : CL} {k : Int} {a : Nat} (h : ChainAt w cb mb F limit fr (A ++ (a, k) :: B)) :
    ∃ pb, w.cell? ⟨cb, 1, none⟩ = some (.pointer (some ⟨pb, 0, none⟩)) ∧ Calls Try.prog 90 #[.pointer (some ⟨pb, 0, none⟩), .int .i64 a] w fun e w' =>
      e = .returned (.tuple #[.agg #[.int .u64 k, .int .i64 (lsC A (-1)), .int .i64 (hdC B (-1))], .bool true]) ∧ Mod [] w w' := by
  obtain ⟨pb, Fp, s, rfl, hb, hp, hn, hL, hlim, hfr⟩ := h
  obtain ⟨_, hg, _⟩ := hL.drop
  exact ⟨pb, hb.cell 1, pL_peek_yes (a : Int) hp hg⟩
def leftC (L : CL) (i : Int) : Nat := (L.dropWhile (fun e => decide ((e.1 : Int) ≠ i))).length
theorem leftC_eq {pre rest : CL} (hd : ((pre ++ rest).map (·.1)).Nodup) : leftC (pre ++ rest) (hdC rest (-1)) = rest.length := by
  unfold leftC
  have h1 : ∀ e ∈ pre, (e.1 : Int) ≠ hdC rest (-1) := by
    intro e he hh
    cases rest with
    | nil => simp [hdC] at hh
    | cons x rest =>
      simp only [hdC] at hh
      rw [List.map_append, List.nodup_append] at hd
      exact hd.2.2 e.1 (List.mem_map.2 ⟨e, he, rfl⟩) x.1 (by simp) (by omega)
  rw [List.dropWhile_append_of_pos (by intro e he; simpa using h1 e he)]
  cases rest with
  | nil => rfl
  | cons x rest => rw [List.dropWhile_cons]; simp [hdC]
set_option maxHeartbeats 400000 in
theorem chain_all (p : Value) (w : World) (hp : ∃ a, p = .pointer a) : Calls Try.prog 50 #[p] w fun e w' => e = .returned (.func (.func 96) #[] #[.pointer (some ⟨w.heap.size, 0, none⟩)]) ∧ w.alloc (.cells #[p] 69) = w' := by
  obtain ⟨a, rfl⟩ := hp
  go_enter Try.func50, Try.ntmps50
  go_wp2
  go_ret
  exact ⟨rfl, rfl⟩
set_option maxRecDepth 100000 in
set_option maxHeartbeats 2000000 in
theorem chain_stops (n : Nat) (hn : 1 ≤ n) (w : World) (cb mb Bn limit : Nat) (F C : List Nat) (fr : Bool) (L : CL) (h : ChainAt w cb mb F limit fr L) (hb : w.cell? ⟨Bn, 0, none⟩ = some (.pointer (some ⟨cb, 0, none⟩)))
    (hF : ∀ k ∈ F, k ∉ C) (hBn : Bn ∉ C) (hC : ∀ k ∈ C, k < w.heap.size) :
    SeqStopsK Fence.wide n Try.prog 96 #[.pointer (some ⟨Bn, 0, none⟩)] (fun e : Nat × Int => #[.int .i64 e.1, .int .u64 e.2]) (KpC C) (fun xs => xs = L) (fun pre => pre <+: L) L.length w := by
  intro l J Jx W hW hJ hJx hY h0
  have hWC : ∀ k ∈ C, k < W.heap.size := fun k hk => Nat.lt_of_lt_of_le (hC k hk) hW.size
  have h1 := h.mod (Mod.of_below hW) (by simp)
  have hBlt : Bn < w.heap.size := by simpa using World.block_lt_of_cell? w _ hb
  have hb1 : W.cell? ⟨Bn, 0, none⟩ = some (.pointer (some ⟨cb, 0, none⟩)) := (hW.cell (p := ⟨Bn, 0, none⟩) hBlt).trans hb
  have hfst := chain_first h1
  have HC := Hidden.mk (And.intro hWC (And.intro hF hBn))
  have HS := Hidden.mk (And.intro h1 (And.intro h0 hJ))
  have HY := Hidden.mk hY
  have HJX := Hidden.mk hJx
  clear h hb hW hC hWC h1 h0 hJ hY hJx hF hBn hBlt
  refine callsIn_of_wp Try.func96 rfl trivial ?_ rfl
  simp only [Try.ntmps96, List.size_toArray, List.length_cons, List.length_nil, Nat.reduceAdd, Nat.reduceSub, Array.replicate_succ, Array.replicate_zero, List.push_toArray, List.append_toArray, List.nil_append, List.cons_append]
  gi_wp2_with (refine ⟨trivial, ?_⟩; gi_at_call 46; refine (callsIn_wide.2 hfst).mono ?_; clear hfst; rintro e w' ⟨rfl, rfl⟩)
  gi_loopw [3] (fun p wr => ∃ (pre rest : CL), p = .int .i64 (hdC rest (-1)) ∧ L = pre ++ rest ∧ ChainAt wr cb mb F limit fr L ∧ wr.cell? ⟨Bn, 0, none⟩ = some (.pointer (some ⟨cb, 0, none⟩)) ∧ W.heap.size ≤ wr.heap.size ∧ J pre wr) (fun p wr => leftC L (intOf p))
  case atStart => exact ⟨[], L, rfl, rfl, HS.out.1, hb1, Nat.le_refl _, HS.out.2.1⟩
  case round =>
    clear hb1
    obtain ⟨pre, rest, rfl, hL, hch, hb, hsz, hJ0⟩ := hrel
    cases rest with
    | nil =>
      have HE := Hidden.mk (And.intro hL hJ0)
      clear hL hJ0 hch
      rw [show hdC ([] : CL) (-1) = -1 from rfl]
      gi_wp2
      go_end0
      exact ⟨⟨_, rfl⟩, .inl ⟨pre, by simp [HE.out.1], HE.out.2⟩⟩
    | cons e rest =>
      obtain ⟨a, k⟩ := e
      obtain ⟨pb, hc1, hpk⟩ := chain_peek (A := pre) (B := rest) (hL ▸ hch)
      have hnd := hch.nodup
      have hne : ((a : Int) == -1) = false := by simp
      have hlenp : pre.length < L.length := by rw [hL]; simp
      generalize hp0 : lsC pre (-1) = p0 at hpk
      generalize hn0 : hdC rest (-1) = n0 at hpk
      have HE := Hidden.mk (And.intro hL (And.intro hJ0 (And.intro hch (And.intro hsz (And.intro hnd (And.intro hlenp hn0))))))
      clear hL hJ0 hch hnd hlenp hp0 hn0
      rw [show hdC ((a, k) :: rest) (-1) = (a : Int) from rfl]
      gi_wp2_with fail
      refine ⟨trivial, ?_⟩
      refine (callsIn_wide.2 hpk).mono ?_
      clear hpk
      rintro e w1 ⟨rfl, hm1⟩
      have HM := Hidden.mk hm1
      have hsz1 := hm1.size
      obtain ⟨fn, tmps, assign, body, hy, hR⟩ := HY.out pre (a, k) _ (AbidesFrom.mod HS.out.2.2 HE.out.2.1 (hm1.alloc (.cells #[.int .u64 k, .int .i64 p0, .int .i64 n0] 130))) HE.out.2.2.2.2.2.1
      clear hm1
      dsimp only at hy
      gi_wp2
      refine hR.mono ?_
      clear hR hy
      have hM1 := HM.out.alloc (.cells #[.int .u64 k, .int .i64 p0, .int .i64 n0] 130)
      rintro e W3 (⟨rfl, hJ3, hk3⟩ | ⟨rfl, hJx3⟩)
      · have hxC : w1.heap.size ∉ C := fun hk => by have := HC.out.1 _ hk; omega
        have hX3 := (Blk.new w1 130 #[.int .u64 k, .int .i64 p0, .int .i64 n0]).kp hk3 hxC
        have x2 : W3.cell? ⟨w1.heap.size, 2, none⟩ = some (.int .i64 n0) := hX3.cell 2
        have hc3 := (HE.out.2.2.1.mod hM1 (by simp)).kp hk3 HC.out.2.1
        have hb3 : W3.cell? ⟨Bn, 0, none⟩ = some (.pointer (some ⟨cb, 0, none⟩)) := by
          have hlt : Bn < wr.heap.size := by simpa using World.block_lt_of_cell? wr _ hb
          exact cell_kp ((hM1.below'.cell (p := ⟨Bn, 0, none⟩) hlt).trans hb) hk3 HC.out.2.2
        have hs3 : W.heap.size ≤ W3.heap.size := by have h1 := hk3.1; have h2 := HE.out.2.2.2.1; simp at h1; omega
        have H3 := Hidden.mk (And.intro hJ3 (And.intro hc3 (And.intro hb3 hs3)))
        clear hJ3 hc3 hb3 hs3 hk3 hX3 hM1
        gi_wp2
        go_roundw
        case rel => exact ⟨pre ++ [(a, k)], rest, by rw [HE.out.2.2.2.2.2.2], by rw [HE.out.1]; simp, H3.out.2.1, H3.out.2.2.1, H3.out.2.2.2, H3.out.1⟩
        case measure =>
          have h1 := HE.out.1
          have h2 := HE.out.2.2.2.2.1
          have e1 : leftC L (a : Int) = rest.length + 1 := by rw [h1]; exact leftC_eq (pre := pre) (rest := (a, k) :: rest) (h1 ▸ h2)
          have e2 : leftC L n0 = rest.length := by rw [← HE.out.2.2.2.2.2.2, h1, show pre ++ (a, k) :: rest = (pre ++ [(a, k)]) ++ rest from by simp]; exact leftC_eq (by rw [List.append_assoc]; exact h1 ▸ h2)
          simp only [intOf]; omega
      · have HX := Hidden.mk hJx3
        clear hJx3 hM1
        gi_wp2
        refine bodyPost_ret (results_none rfl _ _ _) rfl ?_
        exact ⟨⟨_, rfl⟩, .inr ⟨pre ++ [(a, k)], ⟨rest, by rw [HE.out.1]; simp⟩, HX.out⟩⟩
end Go.Proofs.Ytnbanbfnabhjjaa
