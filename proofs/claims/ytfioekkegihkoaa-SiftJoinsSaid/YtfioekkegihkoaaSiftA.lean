/- Sequences of keys: slices.Values, slices.Collect, sift.keys. -/
import Derived.Test.YtfioekkegihkoaaItA
import Derived.Test.YtfioekkegihkoaaAllI
import Derived.Test.YtfioekkegihkoaaRange
namespace Go.Proofs.Ytfioekkegihkoaa
open Go.RowKit Go.Shelf
attribute [local go_sem] Oper.semAt_some
set_option linter.unusedVariables false
set_option linter.unusedSimpArgs false
abbrev encK : Int → Array Value := fun k => #[.int .u64 k]
/-- A sequence that tells l, each time that it is asked; R: the blocks that it reads. -/
def SeqL (w : World) (sv : Value) (l : List Int) (R : List Nat) : Prop :=
  (sv = .nilFunc ∧ l = []) ∨ ∃ g lb, sv = .func (.func g) #[] lb ∧ (∀ args W, (callFunc g args).run Try.prog W = .ok (.enter g args) W) ∧
    ItC Try.prog g lb encK (fun xs _ => xs = l) (fun pre _ => pre <+: l) l.length R [] w ∧ ∀ q ∈ R, q < w.heap.size
theorem SeqL.mod {w w' : World} {sv : Value} {l : List Int} {R T : List Nat} (h : SeqL w sv l R) (hm : Mod T w w') (hT : ∀ q ∈ T, q ∉ R) : SeqL w' sv l R := by
  rcases h with h | ⟨g, lb, rfl, h1, h2, h3⟩
  · exact .inl h
  · exact .inr ⟨g, lb, rfl, h1, h2.later hm hT h3, fun q hq => Nat.lt_of_lt_of_le (h3 q hq) hm.size⟩
theorem SeqL.news {w w' : World} {sv : Value} {l : List Int} {R : List Nat} (h : SeqL w sv l R) (hm : Mod [] w w') : SeqL w' sv l R := h.mod hm (by simp)
/-- The blocks that a row reads. -/
def rbl (v : Value) (l : List Int) : List Nat := if l = [] then [] else rb v
theorem ISl.modl {k : IntKind} {w w' : World} {v : Value} {l : List Int} {S : List Nat} (h : ISl k w v l) (hm : Mod S w w') (hb : ∀ b ∈ rbl v l, b ∉ S) : ISl k w' v l := by
  by_cases hl : l = []
  · subst hl
    obtain ⟨a, cap, rfl, h1, h2, h3, h4⟩ := h
    exact ⟨a, cap, rfl, h1, h2, h3, .inl rfl⟩
  · exact h.mod hm (by unfold rbl at hb; rw [if_neg hl] at hb; exact hb)
theorem rbl_lt {k : IntKind} {w : World} {v : Value} {l : List Int} (h : ISl k w v l) : ∀ b ∈ rbl v l, b < w.heap.size := by
  unfold rbl
  by_cases hl : l = []
  · rw [if_pos hl]; simp
  · rw [if_neg hl]
    obtain ⟨b, off, cap, rfl, _, _, hb, _⟩ := h.at_ (List.length_pos_iff.2 hl)
    intro q hq
    simp [rb, Value.ownBlock] at hq
    subst hq; exact hb
set_option maxRecDepth 100000 in
set_option maxHeartbeats 2000000 in
theorem values_it {w : World} {v : Value} {l : List Int} {Bn : Nat} (h : ISl .u64 w v l) (hn : l.length ≤ 1000000) (hb : w.cell? ⟨Bn, 0, none⟩ = some v) :
    ItC Try.prog 102 #[.pointer (some ⟨Bn, 0, none⟩)] encK (fun xs _ => xs = l) (fun pre _ => pre <+: l) l.length (Bn :: rbl v l) [] w := by
  intro ly J Jx C T W hW hT hC hJ hJx hY h0
  have h1 := h.modl hW (fun k hk hT' => hT k hT' (by simp [hk]))
  have hBlt : Bn < w.heap.size := by simpa using World.block_lt_of_cell? w _ hb
  have hb1 : W.cell? ⟨Bn, 0, none⟩ = some v := (World.cell?_of_block (hW.block Bn hBlt (fun h => hT _ h (by simp)))).trans hb
  have HBW : Hidden (Bn < W.heap.size) := ⟨Nat.lt_of_lt_of_le hBlt hW.size⟩
  obtain ⟨pa, cap, rfl, -⟩ := h.slice_
  have HS := Hidden.mk (And.intro h1 (And.intro h0 (And.intro hJ hC)))
  have HY := Hidden.mk hY
  have HJX := Hidden.mk hJx
  clear h hb hW hC h1 h0 hJ hY hJx hBlt hT
  refine (callsIn_wide (n := 4)).1 ?_
  refine callsIn_of_wp Try.func102 rfl trivial ?_ rfl
  simp only [Try.ntmps102, List.size_toArray, List.length_cons, List.length_nil, Nat.reduceAdd, Nat.reduceSub, Array.replicate_succ, Array.replicate_zero, List.push_toArray, List.append_toArray, List.nil_append, List.cons_append]
  gi_wp2_with fail
  gi_loopw [7] (fun iv wr => ∃ (i : Nat) (C2 : List Nat), i ≤ l.length ∧ iv = .int .i64 i ∧ ISl .u64 wr (.slice pa l.length cap) l ∧ (∀ q ∈ C2, q < wr.heap.size ∧ q ∉ Bn :: rbl (.slice pa l.length cap) l) ∧ J (l.take i) C2 wr ∧ W.heap.size ≤ wr.heap.size) (fun iv _ => l.length - (intOf iv).toNat)
  case atStart => exact ⟨0, C, by omega, rfl, HS.out.1, HS.out.2.2.2, by simpa using HS.out.2.1, Nat.le_refl _⟩
  case round =>
    clear hb1
    obtain ⟨i, C2, hi, rfl, hI, hC2, hJ0, hsz⟩ := hrel
    by_cases hin : i < l.length
    · obtain ⟨g, off, x, rfl, hg, hx, hc⟩ := hI.get hin
      have hd : decide ((i : Int) < (l.length : Int)) = true := decide_eq_true (by omega)
      have hw1 : IntKind.i64.wrap ((i : Int) + 1) = i + 1 := IntWalk.i64_in _ (by omega)
      have htk : l.take (i + 1) = l.take i ++ [x] := by rw [List.take_add_one, hx]; rfl
      obtain ⟨fn, tmps, assign, body, hy, hR⟩ := HY.out (l.take i) x C2 wr hJ0 (by simp; omega) (fun q hq => (hC2 q hq).1)
      rw [← htk] at hR
      have HE := Hidden.mk (And.intro hI (And.intro hC2 hsz))
      clear hI hC2 hJ0 hsz htk hx
      gi_wp2_with fail
      refine hR.mono ?_
      clear hR hy
      rintro e W3 ⟨C3, hk3, hn3, ⟨rfl, hJ3⟩ | ⟨rfl, hJ3⟩⟩
      · have hI3 := HE.out.1.modl hk3 (fun b hb hC => (HE.out.2.1 b hC).2 (by simp [hb]))
        have hC3 : ∀ q ∈ C3, q < W3.heap.size ∧ q ∉ Bn :: rbl (.slice (some ⟨g, off, none⟩) l.length cap) l := fun q hq => by
          refine ⟨(hn3 q hq).2, ?_⟩
          rcases (hn3 q hq).1 with h1 | h1
          · exact (HE.out.2.1 q h1).2
          · intro h2
            rcases List.mem_cons.1 h2 with h2 | h2
            · have := HE.out.2.2; have := HBW.out; omega
            · have := rbl_lt HE.out.1 q h2; omega
        have H3 := Hidden.mk (And.intro hI3 (And.intro hC3 (And.intro hJ3 (Nat.le_trans HE.out.2.2 hk3.size))))
        clear hI3 hC3 hJ3 hk3 hn3
        gi_wp2_with fail
        go_roundw
        case rel => exact ⟨i + 1, C3, by omega, by go_num, H3.out.1, H3.out.2.1, H3.out.2.2.1, H3.out.2.2.2⟩
        case measure => simp [intOf]; omega
      · have HX := Hidden.mk (And.intro hJ3 hn3)
        clear hJ3 hn3 hk3
        gi_wp2_with fail
        refine bodyPost_ret (results_none rfl _ _ _) rfl ?_
        exact ⟨⟨_, rfl⟩, C3, fun q hq => (HX.out.2 q hq).2, .inr ⟨_, List.take_prefix _ _, HX.out.1⟩⟩
    · obtain rfl : i = l.length := by omega
      have hd : decide ((l.length : Int) < (l.length : Int)) = false := decide_eq_false (by omega)
      have HE := Hidden.mk (And.intro hC2 hJ0)
      clear hI hC2 hJ0 hsz
      gi_wp2_with fail
      go_end0
      exact ⟨⟨_, rfl⟩, C2, fun q hq => (HE.out.1 q hq).1, .inl ⟨l, rfl, by have := HE.out.2; rwa [List.take_length] at this⟩⟩
end Go.Proofs.Ytfioekkegihkoaa
