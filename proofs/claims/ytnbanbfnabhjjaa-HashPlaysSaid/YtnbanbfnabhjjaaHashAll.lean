/- The table's iterator: what a range over it is told: the entries, rising. -/
import Derived.Test.YtnbanbfnabhjjaaHashDel
import Derived.Test.YtnbanbfnabhjjaaHashB
import Derived.Test.YtnbanbfnabhjjaaKeep
import Derived.Shelf.Abstract
import Derived.Shelf.RegionOpen
import Derived.OwnWalkIn
import Derived.TacticsInMore
import Derived.LoopNIn
import Derived.LoopIn
namespace Go.Proofs.Ytnbanbfnabhjjaa
open Go.RowKit Go.Shelf
attribute [local go_sem] Oper.semAt_some
set_option linter.unusedVariables false
set_option linter.unusedSimpArgs false
/-- Rising strictly, by level and prefix. -/
def RiseE (l : List (HK × Int)) : Prop := l.Pairwise (fun x y => ltOf cfE x y = true)
theorem rise_unique {l d : List (HK × Int)} (hl : RiseE l) (hp : d.Perm l) (hs : d.Pairwise (fun x y => ltOf cfE y x = false)) : d = l := by
  have hl2 : l.Pairwise (fun x y => ltOf cfE y x = false) := hl.imp (fun {x y} h => by rw [ltE] at *; simp at *; omega)
  refine List.Perm.eq_of_pairwise (le := fun x y => ltOf cfE y x = false) ?_ hs hl2 hp
  intro a b ha hb h1 h2
  have ha' : a ∈ l := hp.mem_iff.1 ha
  obtain ⟨i, hi, rfl⟩ := List.getElem_of_mem ha'
  obtain ⟨j, hj, rfl⟩ := List.getElem_of_mem hb
  rw [RiseE, List.pairwise_iff_getElem] at hl
  rcases Nat.lt_trichotomy i j with h | h | h
  · rw [hl i j hi hj h] at h2; cases h2
  · subst h; rfl
  · rw [hl j i hj hi h] at h1; cases h1
theorem frow_cell {w : World} {g n cap : Nat} {l : List (HK × Int)} (h : Row w 123 4 (.slice (some ⟨g, 0, none⟩) n cap) n (l.flatMap encF)) (hl : l.length = n) {i : Nat} (hi : i < n) (j : Nat) (hj : j < 4) : w.cell? ⟨g, i * 4 + j, none⟩ = (encF l[i])[j]? := by
  obtain ⟨g', cap', hv, _, _, _, _, h6, _⟩ := h.at_ (by omega)
  injection hv with e1; injection e1 with e1; injection e1 with e1; subst e1
  rw [h6 _ (by omega), flat_get encF 4 (fun _ => rfl) l i j hj, List.getElem?_eq_getElem (by omega)]; rfl
/-- What a loop's body keeps that appends to a row of type t: all cells of other types, but those of the blocks C. -/
def KpT (t : Nat) (C : List Nat) (W W' : World) : Prop := W.heap.size ≤ W'.heap.size ∧ ∀ k cs e fz, k ∉ C → e ≠ t → W.heap[k]? = some (.cells cs e fz) → W'.heap[k]? = some (.cells cs e fz)
theorem KpT.refl (t : Nat) (C : List Nat) (W : World) : KpT t C W W := ⟨Nat.le_refl _, fun _ _ _ _ _ _ h => h⟩
theorem KpT.trans {t : Nat} {C : List Nat} {A B D : World} (h : KpT t C A B) (k : KpT t C B D) : KpT t C A D := ⟨Nat.le_trans h.1 k.1, fun q cs e fz hq he h2 => k.2 q cs e fz hq he (h.2 q cs e fz hq he h2)⟩
theorem KpT.put {t : Nat} {C : List Nat} (W : World) (l : Nat) (o o' : Obj) (hl : W.heap[l]? = some o) (ho : o.isCells = false) : KpT t C W (W.putObj l o') := by
  refine ⟨by simp, fun k cs e fz hk _ h1 => ?_⟩
  have : k ≠ l := by rintro rfl; rw [hl] at h1; injection h1 with h1; subst h1; cases ho
  rw [World.putObj_heap_other this]; exact h1
theorem KpT.of_mod {t : Nat} {C S : List Nat} {W W' : World} (h : Mod S W W') (hS : ∀ k ∈ S, k ∈ C) : KpT t C W W' :=
  ⟨h.size, fun k cs e fz hk _ h1 => (h.block k (Array.getElem?_eq_some_iff.1 h1).1 (fun hm => hk (hS k hm))).trans h1⟩
section
variable {t : Nat} {C : List Nat} {W W' : World}
theorem Blk.kpT {b e : Nat} {cs : Array Value} (h : Blk W b e cs) (hk : KpT t C W W') (hb : b ∉ C) (he : e ≠ t) : Blk W' b e cs := hk.2 b _ _ _ hb he h
theorem Row.kpT {e sz n : Nat} {v : Value} {xs : List Value} (h : Row W e sz v n xs) (hk : KpT t C W W') (hb : ∀ k ∈ rb v, k ∉ C) (he : e ≠ t) : Row W' e sz v n xs := by
  refine ⟨h.1, ?_⟩
  rcases h.2 with hn | ⟨g, cap, cur, rfl, hb', hgg, rest⟩
  · exact .inl hn
  · exact .inr ⟨g, cap, cur, rfl, hb', hk.2 g _ _ _ (hb g (by simp [rb, Value.ownBlock])) he hgg, rest⟩
end
set_option maxRecDepth 100000 in
set_option maxHeartbeats 4000000 in
theorem hash_stops (n : Nat) (hn : 2 ≤ n) (t : Nat) (ht : 123 ≠ t) (w : World) (tb mb b Bn : Nat) (pr : Int) (F C : List Nat) (l : List (HK × Int)) (h : TabAt w tb mb F b pr l) (hr : RiseE l) (hb : w.cell? ⟨Bn, 0, none⟩ = some (.pointer (some ⟨tb, 0, none⟩)))
    (hC : ∀ k ∈ C, k < w.heap.size) :
    SeqStopsK Fence.wide n Try.prog 113 #[.pointer (some ⟨Bn, 0, none⟩)] (fun e : HK × Int => #[keyV e.1, .int .u64 e.2]) (KpT t C) (fun xs => xs = l) (fun pre => pre <+: l) l.length w := by
  intro y J Jx W hW hJ hJx hY h0
  have hWC : ∀ k ∈ C, k < W.heap.size := fun k hk => Nat.lt_of_lt_of_le (hC k hk) hW.size
  have h1 := h.mod (Mod.of_below hW) (by simp)
  have hBlt : Bn < w.heap.size := by simpa using World.block_lt_of_cell? w _ hb
  have hb1 : W.cell? ⟨Bn, 0, none⟩ = some (.pointer (some ⟨tb, 0, none⟩)) := (hW.cell (p := ⟨Bn, 0, none⟩) hBlt).trans hb
  obtain ⟨pb, seed, L, hFe, hT⟩ := h1
  have hN := hT.tab.N2
  have c1 : W.cell? ⟨tb, 1, none⟩ = some (.slice (some ⟨pb, 0, none⟩) L.length L.length) := hT.tab.blk.cell 1
  have c0 : W.cell? ⟨tb, 0, none⟩ = some (.pointer (some ⟨mb, 0, none⟩)) := hT.tab.blk.cell 0
  have hclone := clone_entries hT.tab.places (by omega) (by omega)
  have HS := Hidden.mk (And.intro hT (And.intro h0 (And.intro hJ (And.intro hWC hr))))
  have HY := Hidden.mk hY
  have HJX := Hidden.mk hJx
  clear h hb hW hC hWC hT h0 hJ hY hJx hBlt hFe hr
  refine callsIn_of_wp Try.func113 rfl trivial ?_ rfl
  simp only [Try.ntmps113, List.size_toArray, List.length_cons, List.length_nil, Nat.reduceAdd, Nat.reduceSub, Array.replicate_succ, Array.replicate_zero, List.push_toArray, List.append_toArray, List.nil_append, List.cons_append]
  gi_wp2
  refine ⟨trivial, fun h => (by cases h), (callsIn_wide.2 hclone).mono ?_⟩
  clear hclone
  rintro e w1 ⟨g, cap, rfl, hR1, hm1, hg1⟩
  have hdel := delete_entries hR1 rfl (by omega)
  have H1 := Hidden.mk (And.intro hm1 hg1)
  have hcap : L.length ≤ cap := by obtain ⟨_, _, hv, h1, h2⟩ := hR1.slice_; injection hv with _ _ e; omega
  clear hm1 hg1 hR1 hb1 c1 c0
  gi_wp2
  refine ⟨trivial, fun h => (by cases h), (callsIn_wide.2 hdel).mono ?_⟩
  clear hdel
  rintro e w2 ⟨hm2, m, hm, rfl, hR2⟩
  obtain rfl : m = l.length := by rw [hm, HS.out.1.perm.length_eq]
  have hmN : l.length ≤ L.length := by rw [hm]; exact List.length_filterMap_le _ _
  have hsort := sort_row hR2 hm.symm (by omega)
  have H2 := Hidden.mk (And.intro hm2 hm)
  clear hm2 hm hR2
  gi_wp2
  refine ⟨trivial, fun h => (by cases h), (callsIn_wide.2 hsort).mono ?_⟩
  clear hsort
  rintro e w3 ⟨rfl, d, hp, hs, hR3, hm3⟩
  have hdl : d = l := rise_unique HS.out.2.2.2.2 (hp.trans HS.out.1.perm) hs
  subst hdl
  have hM : Mod [] W w3 := by
    obtain ⟨q1, q2⟩ := H1.out
    exact (q1.trans H2.out.1 (fun x hx => .inr (by simp at hx; omega))).trans hm3 (fun x hx => .inr (by simp at hx; omega))
  have hJ3 := AbidesFrom.mod HS.out.2.2.1 HS.out.2.1 hM
  have hgC : ∀ k ∈ rb (.slice (some ⟨g, 0, none⟩) d.length cap), k ∉ C := fun k hk hk' => by
    have h1 := H1.out.2
    have h2 := HS.out.2.2.2.1 k hk'
    simp [rb, Value.ownBlock] at hk; omega
  have H3 := Hidden.mk (And.intro hR3 (And.intro hM (And.intro hJ3 hgC)))
  clear hp hs hR3 hm3 hM hJ3 hgC
  gi_wp2
  gi_loopw [18] (fun p wr => ∃ j : Nat, j ≤ d.length ∧ p = .int .i64 j ∧ Row wr 123 4 (.slice (some ⟨g, 0, none⟩) d.length cap) d.length (d.flatMap encF) ∧ W.heap.size ≤ wr.heap.size ∧ J (d.take j) wr) (fun p _ => d.length - (intOf p).toNat)
  case atStart => exact ⟨0, by omega, rfl, H3.out.1, H3.out.2.1.size, by simpa using H3.out.2.2.1⟩
  case round =>
    obtain ⟨j, hj, rfl, hP, hsz, hJ0⟩ := hrel
    by_cases hlt : j < d.length
    · have q0 := frow_cell hP rfl hlt 0 (by omega)
      have q1 := frow_cell hP rfl hlt 1 (by omega)
      have q2 := frow_cell hP rfl hlt 2 (by omega)
      have q3 := frow_cell hP rfl hlt 3 (by omega)
      have htake : d.take (j + 1) = d.take j ++ [d[j]] := by rw [List.take_add_one, List.getElem?_eq_getElem hlt]; rfl
      generalize d[j] = x at *
      obtain ⟨⟨lv, px⟩, vv⟩ := x
      simp only [encF, List.getElem?_cons_zero, List.getElem?_cons_succ, Nat.add_zero] at q0 q1 q2 q3
      have hJ1 := AbidesFrom.mod HS.out.2.2.1 hJ0 ((Mod.refl [] wr).alloc (.cells #[.int .u8 lv, .int .u64 px, .int .u64 vv, .bool true] 123))
      obtain ⟨fn, tmps, assign, body, hy, hR⟩ := HY.out (d.take j) ((lv, px), vv) _ hJ1 (by simp; omega)
      rw [← htake] at hR
      have HE := Hidden.mk hP
      clear hP hJ0 hJ1 htake
      dsimp only [keyV] at hy
      gi_wp2
      refine ⟨fun h => (by cases h), hR.mono ?_⟩
      clear hR hy
      rintro e W3 (⟨rfl, hJ4, hk4⟩ | ⟨rfl, hJx4⟩)
      · have hP4 := (HE.out.mod ((Mod.refl [] wr).alloc (.cells #[.int .u8 lv, .int .u64 px, .int .u64 vv, .bool true] 123)) (by simp)).kpT hk4 H3.out.2.2.2 ht
        have hs4 : W.heap.size ≤ W3.heap.size := by have h1 := hk4.1; simp at h1; omega
        have H4 := Hidden.mk (And.intro hJ4 (And.intro hP4 hs4))
        clear hJ4 hP4 hs4 hk4
        gi_wp2
        go_roundw
        case rel => exact ⟨j + 1, by omega, by go_num, H4.out.2.1, H4.out.2.2, H4.out.1⟩
        case measure => simp [intOf]; omega
      · have HX := Hidden.mk hJx4
        clear hJx4
        gi_wp2
        refine bodyPost_ret (results_none rfl _ _ _) rfl ?_
        exact ⟨⟨_, rfl⟩, .inr ⟨_, List.take_prefix _ _, HX.out⟩⟩
    · obtain rfl : j = d.length := by omega
      have HE := Hidden.mk hJ0
      clear hP hJ0 hlt
      gi_wp2
      go_end0
      exact ⟨⟨_, rfl⟩, .inl ⟨_, rfl, by rw [List.take_length] at HE; exact HE.out⟩⟩
end Go.Proofs.Ytnbanbfnabhjjaa
