/- Texts joined: XfA, XfK, XfU, XfO, XfE, XfW, XfS, XfQ. -/
import Derived.Test.YtfioekkegihkoaaGXfS
import Derived.Test.YtfioekkegihkoaaGXfM
import Derived.Test.YtfioekkegihkoaaXfI
import Derived.Test.YtfioekkegihkoaaXfD
set_option linter.unusedVariables false
set_option linter.unusedSimpArgs false
/- xfast: New, Min, Max, Clear. -/
namespace Go.Proofs.Ytfioekkegihkoaa
open Go.RowKit
set_option linter.unusedVariables false
set_option linter.unusedSimpArgs false
set_option maxHeartbeats 1000000 in
theorem xf_new_bad (seed limit : Int) (w : World) (hl : limit < 0 ∨ 1048576 < limit) :
    Calls Try.prog 11 #[.int .u64 seed, .int .i64 limit] w fun e w' => e = .returned (.tuple #[.pointer none, .int .i64 1]) ∧ Mod [] w w' := by
  have HC := Hidden.mk (fun W m => chain_new_bad m limit W hl)
  have HM := Hidden.mk ((Mod.refl [] w).alloc (.cells (mtCells Mt.zero) 115))
  clear hl
  go_enter Try.func11, Try.ntmps11
  go_wp2_with (go_at_call 52; refine (meter_new _).mono ?_; rintro e w' ⟨rfl, rfl⟩)
  refine (HC.out _ _).mono ?_
  rintro e w2 ⟨rfl, rfl⟩
  go_wp2_with fail
  go_ret2
  exact ⟨rfl, HM.out⟩
set_option maxHeartbeats 1000000 in
theorem xf_new (seed : Int) (limit : Nat) (w : World) (hl : limit ≤ 1048576) :
    Calls Try.prog 11 #[.int .u64 seed, .int .i64 limit] w fun e w' => ∃ xb mb F, e = .returned (.tuple #[.pointer (some ⟨xb, 0, none⟩), .int .i64 0]) ∧ XfAt w' xb mb F limit [] ∧ mb ∉ F ∧ MeterAt w' mb Mt.zero ∧ Mod [] w w' ∧ w.heap.size ≤ mb ∧ ∀ k ∈ F, w.heap.size ≤ k := by
  have HC := Hidden.mk (fun W mb => chain_new mb limit W hl)
  have HM := Hidden.mk ((Mod.refl [] w).alloc (.cells (mtCells Mt.zero) 115))
  have HN := Hidden.mk (MeterAt.new w)
  have HL := Hidden.mk hl
  clear hl
  go_enter Try.func11, Try.ntmps11
  go_wp2_with (go_at_call 52; refine (meter_new _).mono ?_; rintro e w' ⟨rfl, rfl⟩)
  refine (HC.out _ _).mono ?_
  rintro e w2 ⟨cb, FC, rfl, hc2, hm2, hf2⟩
  have H2 := Hidden.mk (And.intro hc2 (And.intro hm2 hf2))
  clear hc2 hm2 hf2
  go_wp2_with fail
  refine (hash_new _ seed _).mono ?_
  rintro e w3 ⟨tb, FT, rfl, ht3, hm3, hf3⟩
  have H3 := Hidden.mk (And.intro ht3 (And.intro hm3 hf3))
  clear ht3 hm3 hf3
  go_wp2_with fail
  go_ret2
  obtain ⟨hc, hm2, hf2⟩ := H2.out
  obtain ⟨ht, hm3, hf3⟩ := H3.out
  have ha : Mod [] w3 (w3.alloc (.cells (xfCells w.heap.size tb cb limit) 81)) := (Mod.refl [] w3).alloc _
  have hs : w.heap.size + 1 ≤ w2.heap.size := by have := hm2.size; simpa using this
  have hs1 : (w.alloc (.cells (mtCells Mt.zero) 115)).heap.size = w.heap.size + 1 := by simp
  have hs2 := hm3.size
  refine ⟨w3.heap.size, w.heap.size, w3.heap.size :: (FT ++ FC), rfl, ⟨tb, cb, 3, FT, FC, 0, [], rfl, ⟨Blk.new w3 _ _, ht.mod ha (by simp), ((hc.mod hm3 (by simp)).mod ha (by simp)).mono, fun hh => Nat.lt_irrefl _ (ht.lt _ hh), fun hh => Nat.lt_irrefl _ ((hc.mod hm3 (by simp)).lt _ hh), fun q h1 h2 => ?_⟩, XT.empty, List.Pairwise.nil, by simp, by simp⟩, ?_, ((HN.out.mod hm2 (by simp)).mod hm3 (by simp)).mod ha (by simp), ((HM.out.trans hm2 (by simp)).trans hm3 (by simp)).trans ha (by simp), Nat.le_refl _, ?_⟩
  · have := hf3 q h1
    have := hc.lt q h2
    omega
  · simp only [List.mem_cons, List.mem_append, not_or]
    refine ⟨by omega, fun hh => ?_, fun hh => ?_⟩
    · have := hf3 _ hh; omega
    · have := hf2 _ hh; rw [hs1] at this; omega
  · intro q hq
    simp only [List.mem_cons, List.mem_append] at hq
    rcases hq with rfl | hq | hq
    · omega
    · have := hf3 _ hq; omega
    · have := hf2 _ hq; rw [hs1] at this; omega
section
variable {w : World} {xb tb cb mb b0 limit : Nat} {FT FC F : List Nat} {pr : Int} {l : List (HK × Int)} {L : CL} {m : Mt}
set_option maxHeartbeats 1000000 in
theorem xf_clear (h : XfAt w xb mb F limit L) (hmb : mb ∉ F) (hm : MeterAt w mb m) :
    Calls Try.prog 43 #[.pointer (some ⟨xb, 0, none⟩)] w fun e w' => e = .returned (.tuple #[]) ∧ ∃ F', XfAt w' xb mb F' limit [] ∧ mb ∉ F' ∧ MeterAt w' mb m ∧ Mod F w w' ∧ Fresh w F F' := by
  obtain ⟨tb, cb, b0, FT, FC, pr, l, rfl, hI, hT, hU, hK, hN⟩ := h
  have c1 : w.cell? ⟨xb, 1, none⟩ = some (.pointer (some ⟨tb, 0, none⟩)) := hI.blk.cell 1
  have hl := hI.blk.lt
  have HT := Hidden.mk (hash_clear hI.tab)
  have H := Hidden.mk (And.intro hI (And.intro hm (And.intro hmb hm.lt)))
  clear hI hT hU hK hN hm hmb
  go_enter Try.func43, Try.ntmps43
  go_wp2_with fail
  refine HT.out.mono ?_
  rintro e w2 ⟨rfl, FT', k1, k2, k3⟩
  have c22 : w2.cell? ⟨xb, 2, none⟩ = some (.pointer (some ⟨cb, 0, none⟩)) := (H.out.1.blk.mod k2 H.out.1.xFT).cell 2
  have hl2 := (H.out.1.blk.mod k2 H.out.1.xFT).lt
  have HC := Hidden.mk (chain_clear (H.out.1.chn.mod k2 H.out.1.tc))
  have H2 := Hidden.mk (And.intro k1 (And.intro k2 k3))
  clear k1 k2 k3
  go_wp2_with fail
  refine HC.out.mono ?_
  rintro e w3 ⟨rfl, FC', j1, j2, j3⟩
  have H3 := Hidden.mk (And.intro j1 (And.intro j2 j3))
  clear j1 j2 j3
  go_wp2_with fail
  go_end0
  obtain ⟨hI, hm, hmb, hml⟩ := H.out
  obtain ⟨k1, k2, k3⟩ := H2.out
  obtain ⟨j1, j2, j3⟩ := H3.out
  simp only [List.mem_cons, List.mem_append, not_or] at hmb
  have hfr : Fresh w (xb :: (FT ++ FC)) (xb :: (FT' ++ FC')) := fun q hq => by
    simp only [List.mem_cons, List.mem_append] at hq
    rcases hq with rfl | hq | hq
    · exact .inl (by simp)
    · rcases k3 q hq with h1 | h1
      · exact .inl (by simp [h1])
      · exact .inr h1
    · rcases j3 q hq with h1 | h1
      · exact .inl (by simp [h1])
      · exact .inr (Nat.le_trans k2.size h1)
  have hT2 : TabAt w3 tb mb FT' 3 0 [] := k1.mod j2 (fun q h1 h2 => by
    rcases k3 q h2 with h3 | h3
    · exact hI.tc q h3 h1
    · have := hI.chn.lt q h1; omega)
  refine ⟨rfl, xb :: (FT' ++ FC'), ⟨tb, cb, 3, FT', FC', 0, [], rfl, ⟨(hI.blk.mod k2 hI.xFT).mod j2 hI.xFC, hT2, j1.mono, fun hh => ?_, fun hh => ?_, fun q h1 h2 => ?_⟩, XT.empty, List.Pairwise.nil, by simp, by simp⟩, fun hh => ?_, (hm.mod k2 hmb.2.1).mod j2 hmb.2.2, ?_, hfr⟩
  · rcases k3 _ hh with h1 | h1
    · exact hI.xFT h1
    · have := hI.blk.lt; omega
  · rcases j3 _ hh with h1 | h1
    · exact hI.xFC h1
    · have := hI.blk.lt; have := k2.size; omega
  · rcases j3 _ h2 with h4 | h4
    · rcases k3 _ h1 with h3 | h3
      · exact hI.tc q h3 h4
      · have := hI.chn.lt q h4; omega
    · have := k1.lt q h1; omega
  · rcases hfr _ hh with h1 | h1
    · simp only [List.mem_cons, List.mem_append] at h1
      rcases h1 with h1 | h1 | h1
      · exact hmb.1 h1
      · exact hmb.2.1 h1
      · exact hmb.2.2 h1
    · omega
  · exact (k2.mono (fun q hq => .inl (by simp [hq]))).trans j2 (fun q hq => .inl (by simp [hq]))
set_option maxHeartbeats 1000000 in
theorem xf_min (h : XfIn w xb tb cb mb b0 limit FT FC pr false l L) (hm : MeterAt w mb m) (hmb : mb ∉ xb :: (FT ++ FC)) :
    Calls Try.prog 34 #[.pointer (some ⟨xb, 0, none⟩)] w fun e w' => IntBool .u64 (selL (keysC L) 0) e ∧ RdX w xb tb cb mb b0 limit FT FC false l L 1 w' := by
  have HS := Hidden.mk (xf_start h hm hmb)
  have hlt := h.blk.lt
  have H := Hidden.mk hmb
  clear h hm hmb
  go_enter Try.func34, Try.ntmps34
  go_wp2_with fail
  refine HS.out.mono ?_
  rintro e w1 ⟨rfl, hI1, hm1, hM1⟩
  have H1 := Hidden.mk (And.intro hI1 (And.intro hm1 (hM1.mono (T := mb :: FT) (fun q hq => .inl (by rw [List.mem_singleton.1 hq]; simp)))))
  have hl1 := hI1.blk.lt
  have c2 : w1.cell? ⟨xb, 2, none⟩ = some (.pointer (some ⟨cb, 0, none⟩)) := hI1.blk.cell 2
  clear hI1 hm1 hM1 HS
  cases hL : L with
  | nil =>
    subst hL
    go_wp2_with fail
    go_ret2
    exact ⟨rfl, _, _, 0, H1.out.1, H1.out.2.1, rfl, by omega, H1.out.2.2⟩
  | cons e0 L' =>
    subst hL
    obtain ⟨a, k⟩ := e0
    have hd : decide (0 < ((a, k) :: L').length) = true := by simp
    rw [hd]
    have HF : Hidden (Calls Try.prog 83 #[.pointer (some ⟨cb, 0, none⟩)] w1 fun e w' => e = .returned (.int .i64 a) ∧ w1 = w') := ⟨chain_first H1.out.1.chn⟩
    have HT := Hidden.mk (H1.out.1.key (A := []) (B := L') (a := a) (k := k) H.out rfl H1.out.2.1)
    clear hd
    go_wp2_with fail
    refine HF.out.mono ?_
    rintro e w2 ⟨rfl, rfl⟩
    go_wp2_with fail
    refine HT.out.mono ?_
    rintro e w3 ⟨rfl, hm3, hM3⟩
    have H3 := Hidden.mk (And.intro hm3 hM3)
    clear hm3 hM3
    go_wp2_with fail
    go_ret2
    refine ⟨?_, _, _, _, H1.out.1.read H.out H3.out.2, H3.out.1, Mt.read_taken (c := 0) rfl (by omega), by omega, H1.out.2.2.trans H3.out.2 (fun q hq => .inl (by rw [List.mem_singleton.1 hq]; simp))⟩
    rw [show ((0 : Int)) = ((0 : Nat) : Int) from rfl, selL_yes (by simp [keysC])]; rfl
set_option maxHeartbeats 1000000 in
theorem xf_max (h : XfIn w xb tb cb mb b0 limit FT FC pr false l L) (hm : MeterAt w mb m) (hmb : mb ∉ xb :: (FT ++ FC)) :
    Calls Try.prog 35 #[.pointer (some ⟨xb, 0, none⟩)] w fun e w' => IntBool .u64 (selL (keysC L) ((L.length : Int) - 1)) e ∧ RdX w xb tb cb mb b0 limit FT FC false l L 1 w' := by
  have HS := Hidden.mk (xf_start h hm hmb)
  have hlt := h.blk.lt
  have H := Hidden.mk hmb
  clear h hm hmb
  go_enter Try.func35, Try.ntmps35
  go_wp2_with fail
  refine HS.out.mono ?_
  rintro e w1 ⟨rfl, hI1, hm1, hM1⟩
  have H1 := Hidden.mk (And.intro hI1 (And.intro hm1 (hM1.mono (T := mb :: FT) (fun q hq => .inl (by rw [List.mem_singleton.1 hq]; simp)))))
  have hl1 := hI1.blk.lt
  have c2 : w1.cell? ⟨xb, 2, none⟩ = some (.pointer (some ⟨cb, 0, none⟩)) := hI1.blk.cell 2
  clear hI1 hm1 hM1 HS
  by_cases hL : L = []
  · subst hL
    go_wp2_with fail
    go_ret2
    exact ⟨rfl, _, _, 0, H1.out.1, H1.out.2.1, rfl, by omega, H1.out.2.2⟩
  · obtain ⟨A', a, k, rfl, hla⟩ := last_link hL
    have hd : decide (0 < (A' ++ [(a, k)]).length) = true := by simp
    rw [hd]
    have HF : Hidden (Calls Try.prog 84 #[.pointer (some ⟨cb, 0, none⟩)] w1 fun e w' => e = .returned (.int .i64 a) ∧ w1 = w') := ⟨by rw [← hla]; exact chain_last H1.out.1.chn⟩
    have HT := Hidden.mk (H1.out.1.key (A := A') (B := []) (a := a) (k := k) H.out rfl H1.out.2.1)
    clear hd hL hla
    go_wp2_with fail
    refine HF.out.mono ?_
    rintro e w2 ⟨rfl, rfl⟩
    go_wp2_with fail
    refine HT.out.mono ?_
    rintro e w3 ⟨rfl, hm3, hM3⟩
    have H3 := Hidden.mk (And.intro hm3 hM3)
    clear hm3 hM3
    go_wp2_with fail
    go_ret2
    refine ⟨?_, _, _, _, H1.out.1.read H.out H3.out.2, H3.out.1, Mt.read_taken (c := 0) rfl (by omega), by omega, H1.out.2.2.trans H3.out.2 (fun q hq => .inl (by rw [List.mem_singleton.1 hq]; simp))⟩
    rw [show (((A' ++ [(a, k)]).length : Int) - 1) = ((A'.length : Nat) : Int) from by simp, selL_yes (by simp [keysC])]
    simp [IntBool, keysC]
end
end Go.Proofs.Ytfioekkegihkoaa

/- x-fast tries (plain): how many entries a table of beginnings has. -/
namespace Go.Proofs.Ytfioekkegihkoaa
set_option linter.unusedVariables false
/-- The unlike beginnings of so many bits, rising; q: the one ahead. -/
def kindsL (b : Nat) : Option Int → List Int → List Int
  | _, [] => []
  | q, k :: ks => if q = some (pfx k b) then kindsL b q ks else pfx k b :: kindsL b (some (pfx k b)) ks
/-- How many entries the table has. -/
def kindsN (ks : List Int) (n : Nat) : Nat := ((List.range n).map (fun b => (kindsL b none ks).length)).sum
theorem kindsL_sub {b : Nat} {p : Int} : ∀ {q : Option Int} {ks : List Int}, p ∈ kindsL b q ks → ∃ k ∈ ks, pfx k b = p
  | _, [], h => by simp [kindsL] at h
  | q, k :: ks, h => by
    unfold kindsL at h
    split at h
    · obtain ⟨k', h1, h2⟩ := kindsL_sub h; exact ⟨k', by simp [h1], h2⟩
    · rcases List.mem_cons.1 h with rfl | h
      · exact ⟨k, by simp, rfl⟩
      · obtain ⟨k', h1, h2⟩ := kindsL_sub h; exact ⟨k', by simp [h1], h2⟩
theorem kindsL_mem {b : Nat} : ∀ {q : Option Int} {ks : List Int} {k : Int}, k ∈ ks → q = some (pfx k b) ∨ pfx k b ∈ kindsL b q ks
  | _, [], _, h => by simp at h
  | q, k0 :: ks, k, h => by
    unfold kindsL
    rcases List.mem_cons.1 h with rfl | h
    · split
      · exact .inl ‹_›
      · exact .inr (by simp)
    · split
      · exact kindsL_mem h
      · rcases kindsL_mem (b := b) (q := some (pfx k0 b)) h with h1 | h1
        · injection h1 with h1; exact .inr (by simp [h1])
        · exact .inr (by simp [h1])
theorem kindsL_up {b : Nat} : ∀ {q : Option Int} {ks : List Int}, ks.Pairwise (· < ·) → (∀ v, q = some v → ∀ k ∈ ks, v ≤ pfx k b) → (∀ v, q = some v → ∀ p ∈ kindsL b q ks, v < p) ∧ (kindsL b q ks).Pairwise (· < ·)
  | _, [], _, _ => by simp [kindsL]
  | q, k :: ks, h, hq => by
    obtain ⟨h1, h2⟩ := List.pairwise_cons.1 h
    unfold kindsL
    split
    · exact kindsL_up h2 (fun v hv k' hk' => hq v hv k' (by simp [hk']))
    · rename_i hne
      obtain ⟨g1, g2⟩ := kindsL_up (b := b) (q := some (pfx k b)) h2 (fun v hv k' hk' => by injection hv with hv; subst hv; exact pfx_le b (Int.le_of_lt (h1 k' hk')))
      refine ⟨fun v hv p hp => ?_, List.pairwise_cons.2 ⟨fun p hp => g1 _ rfl p hp, g2⟩⟩
      have hv1 := hq v hv k (by simp)
      have hv2 : v ≠ pfx k b := fun hh => hne (by rw [hv, hh])
      rcases List.mem_cons.1 hp with rfl | hp
      · omega
      · have := g1 _ rfl p hp; omega
theorem kindsL_nodup {b : Nat} {ks : List Int} (h : ks.Pairwise (· < ·)) : (kindsL b none ks).Nodup := (kindsL_up h (by simp)).2.imp (fun h => Int.ne_of_lt h)
theorem kindsL_len {b : Nat} : ∀ {q : Option Int} {ks : List Int}, (kindsL b q ks).length ≤ ks.length
  | _, [] => by simp [kindsL]
  | q, k :: ks => by
    unfold kindsL
    split
    · have := kindsL_len (b := b) (q := q) (ks := ks); simp; omega
    · have := kindsL_len (b := b) (q := some (pfx k b)) (ks := ks); simp; omega
theorem kindsN_le (ks : List Int) : ∀ n, kindsN ks n ≤ n * ks.length
  | 0 => by simp [kindsN]
  | n + 1 => by
    have h1 := kindsN_le ks n
    have h2 := kindsL_len (b := n) (q := none) (ks := ks)
    unfold kindsN at h1 ⊢
    rw [List.range_succ, List.map_append, List.sum_append]
    simp only [List.map_cons, List.map_nil, List.sum_cons, List.sum_nil, Nat.add_zero]
    rw [Nat.add_mul, Nat.one_mul]
    omega
theorem bit_len {L : CL} {l : List (HK × Int)} (h : XT L l) (hn : (l.map (·.1)).Nodup) (hu : L.Pairwise (fun e f => e.2 < f.2)) {b : Nat} (hb : b ≤ 64) : l.countP (fun e => decide (e.1.1 = (b : Int))) = (kindsL b none (keysC L)).length := by
  have hp : ((l.filter (fun e => decide (e.1.1 = (b : Int)))).map (·.1.2)).Perm (kindsL b none (keysC L)) := by
    refine (List.perm_ext_iff_of_nodup ?_ (kindsL_nodup (keysC_rises hu))).2 (fun p => ?_)
    · have h1 : l.Pairwise (fun e f => e.1 ≠ f.1) := List.pairwise_map.1 hn
      refine List.pairwise_map.2 ((h1.sublist List.filter_sublist).imp_of_mem ?_)
      intro e f he hf hne hh
      have h2 := (List.mem_filter.1 he).2
      have h3 := (List.mem_filter.1 hf).2
      simp only [decide_eq_true_eq] at h2 h3
      exact hne (Prod.ext (h2.trans h3.symm) hh)
    · have hg := h.get hb p
      constructor
      · intro hm
        obtain ⟨e, he, rfl⟩ := List.mem_map.1 hm
        obtain ⟨he1, he2⟩ := List.mem_filter.1 he
        simp only [decide_eq_true_eq] at he2
        have hne : lk l ((b : Int), e.1.2) ≠ none := fun hh => lk_none.1 hh e he1 (Prod.ext he2 rfl)
        rw [hg] at hne
        have hs : msk L b e.1.2 ≠ [] := fun hh => hne (by rw [spn_none.2 hh]; rfl)
        obtain ⟨f, hf⟩ := List.exists_mem_of_ne_nil _ hs
        obtain ⟨hf1, hf2⟩ := msk_mem.1 hf
        rcases kindsL_mem (b := b) (q := none) (keysC_mem.2 ⟨f, hf1, rfl⟩) with h4 | h4
        · cases h4
        · rw [hf2] at h4; exact h4
      · intro hm
        obtain ⟨k, hk, hkp⟩ := kindsL_sub hm
        obtain ⟨f, hf, rfl⟩ := keysC_mem.1 hk
        have hs : msk L b p ≠ [] := List.ne_nil_of_mem (msk_mem.2 ⟨hf, hkp⟩)
        rw [spn_some hs] at hg
        have h5 := lk_mem hg
        exact List.mem_map.2 ⟨_, List.mem_filter.2 ⟨h5, by simp⟩, rfl⟩
  rw [List.countP_eq_length_filter, ← hp.length_eq, List.length_map]
theorem countP_lt_succ (l : List (HK × Int)) (n : Nat) : l.countP (fun e => decide (e.1.1 < ((n + 1 : Nat) : Int))) = l.countP (fun e => decide (e.1.1 < (n : Int))) + l.countP (fun e => decide (e.1.1 = (n : Int))) := by
  induction l with
  | nil => rfl
  | cons e l ih =>
    rw [List.countP_cons, List.countP_cons, List.countP_cons, ih]
    simp only [decide_eq_true_eq]
    split <;> split <;> split <;> omega
/-- The table has as many entries as its keys have unlike beginnings. -/
theorem xt_len {L : CL} {l : List (HK × Int)} (h : XT L l) (hn : (l.map (·.1)).Nodup) (hu : L.Pairwise (fun e f => e.2 < f.2)) : l.length = kindsN (keysC L) 65 := by
  have key : ∀ n : Nat, n ≤ 65 → l.countP (fun e => decide (e.1.1 < (n : Int))) = kindsN (keysC L) n := by
    intro n
    induction n with
    | zero =>
      intro _
      rw [List.countP_eq_zero.2 (fun e he => by obtain ⟨b, hb, h1⟩ := h.only e he; simp; omega)]; rfl
    | succ n ih =>
      intro hle
      rw [countP_lt_succ, ih (by omega), bit_len h hn hu (by omega)]
      unfold kindsN
      rw [List.range_succ, List.map_append, List.sum_append]; simp
  rw [← key 65 (Nat.le_refl _), List.countP_eq_length.2 (fun e he => by obtain ⟨b, hb, h1⟩ := h.only e he; simp; omega)]
end Go.Proofs.Ytfioekkegihkoaa

/- x-fast tries (plain): what a key more uses. -/
namespace Go.Proofs.Ytfioekkegihkoaa
set_option linter.unusedVariables false
theorem putX_nodup {l : List (HK × Int)} {k : HK} {v : Int} (h : (l.map (·.1)).Nodup) : ((putL l k v).map (·.1)).Nodup := by
  unfold putL
  rw [List.map_cons, List.nodup_cons]
  refine ⟨fun hh => ?_, h.sublist (List.filter_sublist.map _)⟩
  obtain ⟨e, he, h1⟩ := List.mem_map.1 hh
  have := (List.mem_filter.1 he).2
  simp [h1] at this
theorem long_spn {L : CL} {k z : Int} (hz : IsLong L k z) {z1 : Nat} (h1 : z + 1 = (z1 : Int)) {n : Nat} (hn : n ≤ 64) : spn L n (pfx k n) = none ↔ z1 ≤ n := by
  have h2 := hz.2.2 n hn
  rw [spn_none]
  constructor
  · intro h3
    rcases Nat.lt_or_ge n z1 with h4 | h4
    · exact absurd h3 (h2.1 (by omega))
    · exact h4
  · intro h3
    exact Classical.byContradiction (fun h4 => by have := h2.2 h4; omega)
theorem xt_ins {A B : CL} {k z : Int} {l : List (HK × Int)} (a : Nat) (hT : XT (A ++ B) l) (hn : (l.map (·.1)).Nodup) (hz : IsLong (A ++ B) k z) {z1 : Nat} (h1 : z + 1 = (z1 : Int)) :
    ∀ n, n ≤ 65 → ∃ l', XTP (A ++ B) (A ++ (a, k) :: B) n l' ∧ (l'.map (·.1)).Nodup ∧ l'.length = l.length + (n - min n z1)
  | 0, _ => ⟨l, XTP.start hT, hn, by simp⟩
  | n + 1, h => by
    obtain ⟨l', h2, h3, h4⟩ := xt_ins a hT hn hz h1 n (by omega)
    have hs : msk (A ++ (a, k) :: B) n (pfx k n) ≠ [] := by rw [msk_app, msk_yes rfl]; simp
    refine ⟨_, h2.put (by omega) _ _ (spn_some hs) (fun p hp => spn_other (Ne.symm hp)), putX_nodup h3, ?_⟩
    rw [putX_len h3, h4, h2.get (by omega)]
    have h5 := long_spn hz h1 (n := n) (by omega)
    by_cases hz1 : z1 ≤ n
    · rw [h5.2 hz1]; simp only [Option.map_none, if_true]; omega
    · cases hsp : spn (A ++ B) n (pfx k n) with
      | none => exact absurd (h5.1 hsp) hz1
      | some q => simp; omega
/-- What a list of keys uses. -/
def useK (ks : List Int) : Nat := kindsN ks 65 + ks.length
theorem useK_le (ks : List Int) : useK ks ≤ 66 * ks.length := by have := kindsN_le ks 65; unfold useK; omega
theorem use_ins {L : CL} {k z : Int} {n : Nat} (hu : L.Pairwise (fun e f => e.2 < f.2)) (hk : k ∉ keysC L) (hz : IsLong L k z) (hn : XtLen L n) : n = kindsN (keysC L) 65 ∧ ((useK (insL (keysC L) k) : Nat) : Int) = n + L.length + (65 - z) := by
  obtain ⟨l, hT, hnd, rfl⟩ := hn
  have h0 := xt_len hT hnd hu
  obtain ⟨A, B, rfl, hA, hB0⟩ := split_at k hu
  have hB : ∀ e ∈ B, k < e.2 := fun e he => by
    rcases Int.lt_or_le k e.2 with h | h
    · exact h
    · have hke : e.2 = k := by have := hB0 e he; omega
      exact absurd (keysC_mem.2 ⟨e, by simp [he], hke⟩) hk
  obtain ⟨z1, h1⟩ : ∃ z1 : Nat, z + 1 = (z1 : Int) := Int.eq_ofNat_of_zero_le (by have := hz.1; omega)
  have h64 : z ≠ 64 := fun hh => by subst hh; exact hk (keysC_mem.2 hz.whole)
  obtain ⟨l', h2, h3, h4⟩ := xt_ins 0 hT hnd hz h1 65 (Nat.le_refl _)
  have h5 := xt_len h2.done h3 (up_ins hu hA hB)
  rw [keys_ins hA hB0] at h5
  have h6 : (insL (keysC (A ++ B)) k).length = (A ++ B).length + 1 := by rw [← keys_ins (a := 0) hA hB0, keysC_len]; simp; omega
  have h7 := hz.2.1
  refine ⟨h0, ?_⟩
  unfold useK
  rw [h6, ← h5]
  omega
end Go.Proofs.Ytfioekkegihkoaa

/- xfast: what each call answers, by the list of keys. -/
namespace Go.Proofs.Ytfioekkegihkoaa
open Go.RowKit
set_option linter.unusedVariables false
set_option linter.unusedSimpArgs false
/-- Blocks made after w0 that are none of P; P's were there. -/
def XOwn (w0 w : World) (P S : List Nat) : Prop := (∀ q ∈ S, w0.heap.size ≤ q ∧ q ∉ P) ∧ ∀ q ∈ P, q < w.heap.size
/-- What such a call leaves of P's blocks and of those before w0. -/
def XK (w0 : World) (P : List Nat) (w w' : World) : Prop := ∃ S, Mod S w w' ∧ ∀ q ∈ S, w0.heap.size ≤ q ∧ q ∉ P
theorem XK.refl (w0 : World) (P : List Nat) (w : World) : XK w0 P w w := ⟨[], Mod.refl _ _, by simp⟩
theorem XK.trans {w0 w w1 w2 : World} {P : List Nat} (h : XK w0 P w w1) (k : XK w0 P w1 w2) : XK w0 P w w2 := by
  obtain ⟨S, h1, h2⟩ := h
  obtain ⟨T, k1, k2⟩ := k
  exact ⟨S ++ T, (h1.mono (fun q hq => .inl (by simp [hq]))).trans k1 (fun q hq => .inl (by simp [hq])), fun q hq => (List.mem_append.1 hq).elim (h2 q) (k2 q)⟩
theorem XK.news {w0 w w1 : World} {P : List Nat} (h : Mod [] w w1) : XK w0 P w w1 := ⟨[], h, by simp⟩
theorem XK.isl {w0 w w1 : World} {P : List Nat} {k : IntKind} {v : Value} {l : List Int} (h : XK w0 P w w1) (hl : ISl k w v l) (hv : ∀ b ∈ rb v, b ∈ P) : ISl k w1 v l := by
  obtain ⟨S, h1, h2⟩ := h
  exact hl.mod h1 (fun b hb hS => (h2 b hS).2 (hv b hb))
theorem XOwn.news {w0 w w' : World} {P S : List Nat} (h : XOwn w0 w P S) (hm : w.heap.size ≤ w'.heap.size) : XOwn w0 w' P S := ⟨h.1, fun q hq => Nat.lt_of_lt_of_le (h.2 q hq) hm⟩
/-- A trie made after w0 with these keys, at most so many steps taken. -/
def XM (w0 w : World) (xb limit : Nat) (ks : List Int) (c : Nat) (P : List Nat) : Prop := ∃ mb F L m c', XfAt w xb mb F limit L ∧ mb ∉ F ∧ MeterAt w mb m ∧ m.taken = ((c' : Nat) : Int) ∧ c' ≤ c ∧ XOwn w0 w P (mb :: F) ∧ Mod [] w0 w ∧ keysC L = ks
section
variable {w0 w w' : World} {xb limit c : Nat} {ks : List Int} {P : List Nat}
theorem XM.mono {c2 : Nat} (h : XM w0 w xb limit ks c P) (hc : c ≤ c2) : XM w0 w xb limit ks c2 P := by
  obtain ⟨mb, F, L, m, c', h1, h2, h3, h4, h5, h6⟩ := h; exact ⟨mb, F, L, m, c', h1, h2, h3, h4, Nat.le_trans h5 hc, h6⟩
theorem XM.news (h : XM w0 w xb limit ks c P) (hm : Mod [] w w') : XM w0 w' xb limit ks c P := by
  obtain ⟨mb, F, L, m, c', h1, h2, h3, h4, h5, h6, h7, h8⟩ := h
  exact ⟨mb, F, L, m, c', h1.mod hm (by simp), h2, h3.mod hm (by simp), h4, h5, h6.news hm.size, h7.trans hm (by simp), h8⟩
theorem XM.guard {q : Nat} (h : XM w0 w xb limit ks c P) (hm : Mod [] w w') (h1 : w.heap.size ≤ q) (h2 : q < w'.heap.size) : XM w0 w' xb limit ks c (q :: P) := by
  obtain ⟨mb, F, L, m, c', g1, g2, g3, g4, g5, g6, g7, g8⟩ := h
  refine ⟨mb, F, L, m, c', g1.mod hm (by simp), g2, g3.mod hm (by simp), g4, g5, ⟨fun r hr => ⟨(g6.1 r hr).1, fun hh => ?_⟩, fun r hr => ?_⟩, g7.trans hm (by simp), g8⟩
  · rcases List.mem_cons.1 hh with rfl | hh
    · rcases List.mem_cons.1 hr with rfl | hr
      · have := g3.lt; omega
      · have := g1.lt _ hr; omega
    · exact (g6.1 r hr).2 hh
  · rcases List.mem_cons.1 hr with rfl | hr
    · exact h2
    · exact Nat.lt_of_lt_of_le (g6.2 r hr) hm.size
theorem XM.facts (h : XM w0 w xb limit ks c P) : ks.Pairwise (· < ·) ∧ (∀ k ∈ ks, 0 ≤ k ∧ k < 18446744073709551616) ∧ useK ks ≤ limit ∧ limit ≤ 1048576 ∧ Mod [] w0 w := by
  obtain ⟨mb, F, L, m, c', ⟨tb, cb, b0, FT, FC, pr, l, rfl, hI, hT, hU, hK, hN⟩, h2, h3, h4, h5, h6, h7, rfl⟩ := h
  refine ⟨keysC_rises hU, fun k hk => ?_, ?_, hI.chn.len.2, h7⟩
  · obtain ⟨e, he, rfl⟩ := keysC_mem.1 hk; exact hK e he
  · unfold useK; rw [← xt_len hT hI.tab.nodup hU, keysC_len]; exact hN
def insE (ks : List Int) (limit : Nat) (k : Int) : Int := if k ∈ ks then 4 else if useK (insL ks k) ≤ limit then 0 else 5
def insK (ks : List Int) (limit : Nat) (k : Int) : List Int := if k ∈ ks then ks else if useK (insL ks k) ≤ limit then insL ks k else ks
theorem fresh_ge {S F F' : List Nat} {mb : Nat} (h : Fresh w F F') (h0 : XOwn w0 w P (mb :: F)) (hM : Mod [] w0 w) (hs : w.heap.size ≤ w'.heap.size) : XOwn w0 w' P (mb :: F') := ⟨fun q hq => by
  rcases List.mem_cons.1 hq with rfl | hq
  · exact h0.1 _ (by simp)
  · rcases h q hq with h1 | h1
    · exact h0.1 _ (by simp [h1])
    · exact ⟨Nat.le_trans hM.size h1, fun hh => by have := h0.2 q hh; omega⟩, fun q hq => Nat.lt_of_lt_of_le (h0.2 q hq) hs⟩
theorem mod_ge {S T : List Nat} (h : Mod [] w0 w) (hM : Mod S w w') (h0 : XOwn w0 w P T) (hT : ∀ q ∈ S, q ∈ T) : Mod [] w0 w' := h.trans hM (fun q hq => .inr (h0.1 q (hT q hq)).1)
theorem xk_of {S T : List Nat} (hM : Mod S w w') (h0 : XOwn w0 w P T) (hT : ∀ q ∈ S, q ∈ T) : XK w0 P w w' := ⟨S, hM, fun q hq => h0.1 q (hT q hq)⟩
theorem xm_insert (k : Int) (hk : 0 ≤ k ∧ k < 18446744073709551616) (h : XM w0 w xb limit ks c P) :
    Calls Try.prog 30 #[.pointer (some ⟨xb, 0, none⟩), .int .u64 k] w fun e w' => e = .returned (.int .i64 (insE ks limit k)) ∧ XM w0 w' xb limit (insK ks limit k) 1000 P ∧ XK w0 P w w' := by
  obtain ⟨mb, F, L, m, c', h1, h2, h3, h4, h5, h6, h7, rfl⟩ := h
  refine (xf_insert k hk h1 h3 h2).mono ?_
  rintro e w' ⟨er, L', F', m', c2, rfl, k1, k2, k3, k4, k5, k6, k7, k8⟩
  have hU : L.Pairwise (fun e f => e.2 < f.2) := by obtain ⟨_, _, _, _, _, _, _, _, _, _, g, _⟩ := h1; exact g
  have e1 := fresh_ge (S := []) k7 h6 h7 k6.size
  have e2 := mod_ge h7 k6 h6 (fun _ h => h)
  have e3 := xk_of k6 h6 (fun _ h => h)
  unfold insE insK
  rcases k8 with ⟨g1, rfl, rfl⟩ | ⟨g1, z, n, g2, g3, g4⟩
  · rw [if_pos g1, if_pos g1]; exact ⟨rfl, ⟨mb, F', _, m', c2, k1, k2, k3, k4, k5, e1, e2, rfl⟩, e3⟩
  · have hu := (use_ins hU g1 g2 g3).2
    rw [if_neg g1, if_neg g1]
    rcases g4 with ⟨rfl, rfl, g5⟩ | ⟨rfl, g5, g6⟩
    · rw [if_neg (by omega), if_neg (by omega)]; exact ⟨rfl, ⟨mb, F', _, m', c2, k1, k2, k3, k4, k5, e1, e2, rfl⟩, e3⟩
    · rw [if_pos (by omega), if_pos (by omega)]; exact ⟨rfl, ⟨mb, F', _, m', c2, k1, k2, k3, k4, k5, e1, e2, g5⟩, e3⟩
theorem xm_delete (k : Int) (hk : 0 ≤ k ∧ k < 18446744073709551616) (h : XM w0 w xb limit ks c P) :
    Calls Try.prog 32 #[.pointer (some ⟨xb, 0, none⟩), .int .u64 k] w fun e w' => e = .returned (.int .i64 (if k ∈ ks then 0 else 3)) ∧ XM w0 w' xb limit (if k ∈ ks then delL ks k else ks) 1000 P ∧ XK w0 P w w' := by
  obtain ⟨mb, F, L, m, c', h1, h2, h3, h4, h5, h6, h7, rfl⟩ := h
  refine (xf_delete k hk h1 h3 h2).mono ?_
  rintro e w' ⟨er, L', F', m', c2, rfl, k1, k2, k3, k4, k5, k6, k7, k8⟩
  have e1 := fresh_ge (S := []) k7 h6 h7 k6.size
  have e2 := mod_ge h7 k6 h6 (fun _ h => h)
  have e3 := xk_of k6 h6 (fun _ h => h)
  rcases k8 with ⟨g1, rfl, rfl⟩ | ⟨g1, rfl, g4⟩
  · rw [if_neg g1, if_neg g1]; exact ⟨rfl, ⟨mb, F', _, m', c2, k1, k2, k3, k4, k5, e1, e2, rfl⟩, e3⟩
  · rw [if_pos g1, if_pos g1]; exact ⟨rfl, ⟨mb, F', _, m', c2, k1, k2, k3, k4, k5, e1, e2, g4⟩, e3⟩
theorem XM.rd {mb tb cb b0 : Nat} {FT FC : List Nat} {l : List (HK × Int)} {L : CL} {c1 : Nat} (hr : RdX w xb tb cb mb b0 limit FT FC false l L c1 w') (hT : XT L l) (hU : L.Pairwise (fun e f => e.2 < f.2)) (hK : ∀ e ∈ L, 0 ≤ e.2 ∧ e.2 < 18446744073709551616) (hN : l.length + L.length ≤ limit) (hmb : mb ∉ xb :: (FT ++ FC)) (h6 : XOwn w0 w P (mb :: (xb :: (FT ++ FC)))) (h7 : Mod [] w0 w) : XM w0 w' xb limit (keysC L) c1 P ∧ XK w0 P w w' := by
  obtain ⟨a1, ⟨m', c', a2, a3, a4⟩, a5⟩ := XfAt.of_rd hr hT hU hK hN
  exact ⟨⟨mb, _, L, m', c', a1, hmb, a2, a3, a4, h6.news a5.size, mod_ge h7 a5 h6 (fun _ h => h), rfl⟩, xk_of a5 h6 (fun _ h => h)⟩
theorem xm_has (k : Int) (hk : 0 ≤ k ∧ k < 18446744073709551616) (h : XM w0 w xb limit ks c P) :
    Calls Try.prog 15 #[.pointer (some ⟨xb, 0, none⟩), .int .u64 k] w fun e w' => e = .returned (.bool (decide (k ∈ ks))) ∧ XM w0 w' xb limit ks 1 P ∧ XK w0 P w w' := by
  obtain ⟨mb, F, L, m, c', ⟨tb, cb, b0, FT, FC, pr, l, rfl, hI, hT, hU, hK, hN⟩, h2, h3, h4, h5, h6, h7, rfl⟩ := h
  refine (xf_has k hk hI (hI.xl hU hK) hT h3 h2).mono ?_
  rintro e w' ⟨rfl, hr⟩
  exact ⟨rfl, XM.rd hr hT hU hK hN h2 h6 h7⟩
theorem xm_next (k : Int) (hk : 0 ≤ k ∧ k < 18446744073709551616) (h : XM w0 w xb limit ks c P) :
    Calls Try.prog 17 #[.pointer (some ⟨xb, 0, none⟩), .int .u64 k] w fun e w' => IntBool .u64 (selL ks (rk ks k)) e ∧ XM w0 w' xb limit ks 9 P ∧ XK w0 P w w' := by
  obtain ⟨mb, F, L, m, c', ⟨tb, cb, b0, FT, FC, pr, l, rfl, hI, hT, hU, hK, hN⟩, h2, h3, h4, h5, h6, h7, rfl⟩ := h
  refine (xf_next k hk hI (hI.xl hU hK) hT h3 h2).mono ?_
  rintro e w' ⟨he, hr⟩
  exact ⟨he, XM.rd hr hT hU hK hN h2 h6 h7⟩
theorem xm_prev (k : Int) (hk : 0 ≤ k ∧ k < 18446744073709551616) (h : XM w0 w xb limit ks c P) :
    Calls Try.prog 16 #[.pointer (some ⟨xb, 0, none⟩), .int .u64 k] w fun e w' => IntBool .u64 (prevL64 ks k) e ∧ XM w0 w' xb limit ks 9 P ∧ XK w0 P w w' := by
  obtain ⟨mb, F, L, m, c', ⟨tb, cb, b0, FT, FC, pr, l, rfl, hI, hT, hU, hK, hN⟩, h2, h3, h4, h5, h6, h7, rfl⟩ := h
  refine (xf_prev k hk hI (hI.xl hU hK) hT h3 h2).mono ?_
  rintro e w' ⟨he, hr⟩
  exact ⟨he, XM.rd hr hT hU hK hN h2 h6 h7⟩
theorem xm_min (h : XM w0 w xb limit ks c P) :
    Calls Try.prog 34 #[.pointer (some ⟨xb, 0, none⟩)] w fun e w' => IntBool .u64 (selL ks 0) e ∧ XM w0 w' xb limit ks 1 P ∧ XK w0 P w w' := by
  obtain ⟨mb, F, L, m, c', ⟨tb, cb, b0, FT, FC, pr, l, rfl, hI, hT, hU, hK, hN⟩, h2, h3, h4, h5, h6, h7, rfl⟩ := h
  refine (xf_min hI h3 h2).mono ?_
  rintro e w' ⟨he, hr⟩
  exact ⟨he, XM.rd hr hT hU hK hN h2 h6 h7⟩
theorem xm_max (h : XM w0 w xb limit ks c P) :
    Calls Try.prog 35 #[.pointer (some ⟨xb, 0, none⟩)] w fun e w' => IntBool .u64 (selL ks ((ks.length : Int) - 1)) e ∧ XM w0 w' xb limit ks 1 P ∧ XK w0 P w w' := by
  obtain ⟨mb, F, L, m, c', ⟨tb, cb, b0, FT, FC, pr, l, rfl, hI, hT, hU, hK, hN⟩, h2, h3, h4, h5, h6, h7, rfl⟩ := h
  refine (xf_max hI h3 h2).mono ?_
  rintro e w' ⟨he, hr⟩
  exact ⟨by rw [keysC_len]; exact he, XM.rd hr hT hU hK hN h2 h6 h7⟩
theorem xm_shared (k : Int) (hk : 0 ≤ k ∧ k < 18446744073709551616) (h : XM w0 w xb limit ks c P) :
    Calls Try.prog 19 #[.pointer (some ⟨xb, 0, none⟩), .int .u64 k] w fun e w' => (∃ z L, e = .returned (.int .i64 z) ∧ IsLong L k z ∧ keysC L = ks) ∧ XM w0 w' xb limit ks 7 P ∧ XK w0 P w w' := by
  obtain ⟨mb, F, L, m, c', ⟨tb, cb, b0, FT, FC, pr, l, rfl, hI, hT, hU, hK, hN⟩, h2, h3, h4, h5, h6, h7, rfl⟩ := h
  refine (xf_shared k hk hI (hI.xl hU hK) hT h3 h2).mono ?_
  rintro e w' ⟨⟨z, rfl, hz⟩, hr⟩
  exact ⟨⟨z, L, rfl, hz, rfl⟩, XM.rd hr hT hU hK hN h2 h6 h7⟩
theorem xm_used (h : XM w0 w xb limit ks c P) :
    Calls Try.prog 36 #[.pointer (some ⟨xb, 0, none⟩)] w fun e w' => e = .returned (.int .i64 (useK ks : Nat)) ∧ XM w0 w' xb limit ks c P ∧ Mod [] w w' := by
  have h0 := h
  obtain ⟨mb, F, L, m, c', ⟨tb, cb, b0, FT, FC, pr, l, rfl, hI, hT, hU, hK, hN⟩, h2, h3, h4, h5, h6, h7, rfl⟩ := h
  have hl := hI.chn.len.2
  refine (xf_used hI (by omega) (by omega)).mono ?_
  rintro e w' ⟨rfl, hM⟩
  refine ⟨?_, h0.news hM, hM⟩
  unfold useK; rw [← xt_len hT hI.tab.nodup hU, keysC_len]
theorem xm_len (h : XM w0 w xb limit ks c P) :
    Calls Try.prog 44 #[.pointer (some ⟨xb, 0, none⟩)] w fun e w' => e = .returned (.int .i64 (ks.length : Nat)) ∧ w = w' := by
  obtain ⟨mb, F, L, m, c', ⟨tb, cb, b0, FT, FC, pr, l, rfl, hI, hT, hU, hK, hN⟩, h2, h3, h4, h5, h6, h7, rfl⟩ := h
  refine (xf_len hI).mono ?_
  rintro e w' ⟨rfl, rfl⟩
  exact ⟨by rw [keysC_len], rfl⟩
theorem xm_limit (h : XM w0 w xb limit ks c P) :
    Calls Try.prog 45 #[.pointer (some ⟨xb, 0, none⟩)] w fun e w' => e = .returned (.int .i64 limit) ∧ w = w' := by
  obtain ⟨mb, F, L, m, c', ⟨tb, cb, b0, FT, FC, pr, l, rfl, hI, hT, hU, hK, hN⟩, h2, h3, h4, h5, h6, h7, rfl⟩ := h
  exact xf_limit hI
theorem xm_clear (h : XM w0 w xb limit ks c P) :
    Calls Try.prog 43 #[.pointer (some ⟨xb, 0, none⟩)] w fun e w' => e = .returned (.tuple #[]) ∧ XM w0 w' xb limit [] c P ∧ XK w0 P w w' := by
  obtain ⟨mb, F, L, m, c', h1, h2, h3, h4, h5, h6, h7, rfl⟩ := h
  refine (xf_clear h1 h2 h3).mono ?_
  rintro e w' ⟨rfl, F', k1, k2, k3, k4, k5⟩
  exact ⟨rfl, ⟨mb, F', [], m, c', k1, k2, k3, h4, h5, fresh_ge (S := []) k5 h6 h7 k4.size, mod_ge h7 k4 h6 (fun q hq => by simp [hq]), rfl⟩, xk_of k4 h6 (fun q hq => by simp [hq])⟩
theorem xm_new (seed : Int) (limit : Nat) (w0 w : World) (hl : limit ≤ 1048576) (h0 : Mod [] w0 w) :
    Calls Try.prog 11 #[.int .u64 seed, .int .i64 limit] w fun e w' => ∃ xb, e = .returned (.tuple #[.pointer (some ⟨xb, 0, none⟩), .int .i64 0]) ∧ XM w0 w' xb limit [] 0 [] ∧ Mod [] w w' := by
  refine (xf_new seed limit w hl).mono ?_
  rintro e w' ⟨xb, mb, F, rfl, k1, k2, k3, k4, k5, k6⟩
  refine ⟨xb, rfl, ⟨mb, F, [], Mt.zero, 0, k1, k2, k3, rfl, Nat.le_refl _, ⟨fun q hq => ⟨?_, by simp⟩, by simp⟩, h0.trans k4 (by simp), rfl⟩, k4⟩
  have := h0.size
  rcases List.mem_cons.1 hq with rfl | hq
  · omega
  · have := k6 q hq; omega
end
end Go.Proofs.Ytfioekkegihkoaa

/- xfast: Each. -/
namespace Go.Proofs.Ytfioekkegihkoaa
open Go.RowKit
set_option linter.unusedVariables false
set_option linter.unusedSimpArgs false
/-- With a key. -/
def inK (ks : List Int) (k : Int) : List Int := if k ∈ ks then ks else insL ks k
theorem inK_len (ks : List Int) (k : Int) : (inK ks k).length ≤ ks.length + 1 := by
  unfold inK
  split
  · omega
  · unfold insL; simp; omega
theorem insK_fit {ks : List Int} {limit : Nat} {k : Int} (h : 66 * (ks.length + 1) ≤ limit) : insK ks limit k = inK ks k ∧ insE ks limit k = if k ∈ ks then 4 else 0 := by
  unfold insK insE inK
  by_cases hk : k ∈ ks
  · simp [hk]
  · have h1 := useK_le (insL ks k)
    have h2 : (insL ks k).length = ks.length + 1 := by
      have := inK_len ks k
      unfold inK at this
      rw [if_neg hk] at this
      unfold insL at this ⊢
      simp at this ⊢
      omega
    rw [h2] at h1
    have h3 : useK (insL ks k) ≤ limit := Nat.le_trans h1 h
    simp [hk, h3]
set_option maxHeartbeats 2000000 in
theorem xm_each {w0 w : World} {xb limit c : Nat} {ks : List Int} {P : List Nat} (l : List Int) (v : Value) (h : XM w0 w xb limit ks c P) (hl : ∀ W, XK w0 P w W → ISl .u64 W v l) (hk : ∀ k ∈ l, 0 ≤ k ∧ k < 18446744073709551616) (hn : l.length ≤ 1000000) (hfit : 66 * (ks.length + l.length) ≤ limit) :
    Calls Try.prog 14 #[.pointer (some ⟨xb, 0, none⟩), v] w fun e w' => (∃ n : Int, e = .returned (.int .i64 n)) ∧ ∃ c', XM w0 w' xb limit (l.foldl inK ks) c' P ∧ XK w0 P w w' := by
  obtain ⟨a, cap, rfl, k1, k2⟩ := (hl _ (XK.refl _ _ _)).slice_
  have HL := Hidden.mk (And.intro hl hk)
  have HF := Hidden.mk hfit
  have H0 : Hidden (∃ c', XM w0 w xb limit (([] : List Int).foldl inK ks) c' P ∧ XK w0 P w w) := ⟨c, h, XK.refl _ _ _⟩
  clear hl hk h hfit
  go_enter Try.func14, Try.ntmps14
  go_wp2_with fail
  go_loopw [5, 10] (fun nv iv wr => ∃ (i n : Nat), i ≤ l.length ∧ n ≤ i ∧ nv = .int .i64 n ∧ iv = .int .i64 i ∧ ∃ c', XM w0 wr xb limit ((l.take i).foldl inK ks) c' P ∧ XK w0 P w wr) (fun _ iv _ => l.length - (intOf iv).toNat)
  case atStart => exact ⟨0, 0, by omega, by omega, rfl, rfl, by simpa using H0.out⟩
  case round =>
    clear H0
    obtain ⟨i, n, hi, hni, rfl, rfl, c', hX, hXK⟩ := hrel
    by_cases hlt : i < l.length
    · obtain ⟨g, off, x, rfl, hg, hx, hc⟩ := (HL.out.1 _ hXK).get hlt
      have hxk := HL.out.2 x (List.mem_of_getElem? hx)
      have hlen : ∀ (m : List Int) (ks : List Int), (m.foldl inK ks).length ≤ ks.length + m.length := by
        intro m
        induction m with
        | nil => intro ks; simp
        | cons y m ih => intro ks; have := ih (inK ks y); have := inK_len ks y; simp; omega
      have hf := hlen (l.take i) ks
      have hfit : 66 * (((l.take i).foldl inK ks).length + 1) ≤ limit := by
        have := HF.out
        rw [List.length_take] at hf
        omega
      have HI := Hidden.mk (xm_insert x hxk hX)
      have HE := Hidden.mk (insK_fit (k := x) hfit)
      have HS := Hidden.mk (show (l.take (i + 1)).foldl inK ks = inK ((l.take i).foldl inK ks) x from by rw [List.take_add_one, hx, List.foldl_append]; rfl)
      have HK0 := Hidden.mk hXK
      have hw1 : IntKind.i64.wrap ((i : Int) + 1) = i + 1 := IntWalk.i64_in _ (by omega)
      have hw2 : IntKind.i64.wrap ((n : Int) + 1) = n + 1 := IntWalk.i64_in _ (by omega)
      clear hX hXK hx hxk hlen hf hfit
      go_wp2_with fail
      refine HI.out.mono ?_
      rintro e w1 ⟨rfl, hX1, hK1⟩
      rw [HE.out.1, ← HS.out] at hX1
      rw [HE.out.2]
      have H1 := Hidden.mk (And.intro hX1 (HK0.out.trans hK1))
      clear hX1 hK1
      by_cases hm : x ∈ (l.take i).foldl inK ks
      · rw [if_pos hm]
        clear hm HE HI HS HK0
        go_wp2_with fail
        go_roundw
        case rel => exact ⟨i + 1, n, by omega, by omega, rfl, rfl, _, H1.out⟩
        case measure => simp [intOf]; omega
      · rw [if_neg hm]
        clear hm HE HI HS HK0
        go_wp2_with fail
        go_roundw
        case rel => exact ⟨i + 1, n + 1, by omega, by omega, rfl, rfl, _, H1.out⟩
        case measure => simp [intOf]; omega
    · obtain rfl : i = l.length := by omega
      have HS := Hidden.mk (And.intro hX hXK)
      clear hX hXK hlt
      go_wp2_with fail
      go_ret
      exact ⟨⟨_, rfl⟩, c', by have := HS.out.1; rw [List.take_length] at this; exact ⟨this, HS.out.2⟩⟩
/-- A list made beside a trie stays as it is. -/
theorem XM.with {w0 w w' : World} {xb limit c : Nat} {ks l : List Int} {v : Value} {k : IntKind} (h : XM w0 w xb limit ks c []) (hm : Mod [] w w') (hl : ISl k w' v l) (hg : ∀ b ∈ rb v, w.heap.size ≤ b) : ∃ P, XM w0 w' xb limit ks c P ∧ ∀ W, XK w0 P w' W → ISl k W v l := by
  rcases Nat.eq_zero_or_pos l.length with h0 | h0
  · obtain rfl := List.eq_nil_of_length_eq_zero h0
    obtain ⟨a, cap, rfl, h1, h2, h3, h4⟩ := hl
    exact ⟨[], h.news hm, fun W _ => ⟨a, cap, rfl, h1, h2, h3, .inl rfl⟩⟩
  · have hl' := hl
    obtain ⟨b, off, cap, rfl, h1, h2, h3, h4⟩ := hl.at_ h0
    have hb : b ∈ rb (.slice (some ⟨b, off, none⟩) l.length cap) := by simp [rb, Value.ownBlock]
    exact ⟨[b], h.guard hm (hg b hb) h3, fun W hW => hW.isl hl' (fun q hq => by simpa [rb, Value.ownBlock] using hq)⟩
end Go.Proofs.Ytfioekkegihkoaa

/- stepstonelaw14: awake. -/
namespace Go.Proofs.Ytfioekkegihkoaa
open Go.RowKit
set_option linter.unusedVariables false
set_option linter.unusedSimpArgs false
theorem xm_insert_fit {w0 w : World} {xb limit c : Nat} {ks : List Int} {P : List Nat} (k : Int) (hk : 0 ≤ k ∧ k < 18446744073709551616) (h : XM w0 w xb limit ks c P) (hf : 66 * (ks.length + 1) ≤ limit) :
    Calls Try.prog 30 #[.pointer (some ⟨xb, 0, none⟩), .int .u64 k] w fun e w' => e = .returned (.int .i64 (if k ∈ ks then 4 else 0)) ∧ XM w0 w' xb limit (inK ks k) 1000 P ∧ XK w0 P w w' := by
  have h1 := insK_fit (k := k) hf
  have h2 := xm_insert k hk h
  rw [h1.1, h1.2] at h2
  exact h2
set_option maxHeartbeats 2000000 in
theorem awake14 (w : World) : Calls Try.prog 10 #[] w fun e w' => e = .returned (.bool true) ∧ Mod [] w w' := by
  have HN : Hidden (Calls Try.prog 11 #[.int .u64 1, .int .i64 4000] w fun e w' => ∃ xb, e = .returned (.tuple #[.pointer (some ⟨xb, 0, none⟩), .int .i64 0]) ∧ XM w w' xb 4000 [] 0 [] ∧ Mod [] w w') := ⟨xm_new 1 4000 w w (by decide) (Mod.refl _ _)⟩
  go_enter Try.func10, Try.ntmps10
  go_wp2_with fail
  refine HN.out.mono ?_
  rintro e w1 ⟨xb, rfl, h1, -⟩
  have H1 : Hidden (Calls Try.prog 30 #[.pointer (some ⟨xb, 0, none⟩), .int .u64 5] w1 fun e w' => e = .returned (.int .i64 0) ∧ XM w w' xb 4000 [5] 1000 [] ∧ XK w [] w1 w') := ⟨xm_insert_fit 5 (by decide) h1 (by decide)⟩
  clear h1 HN
  go_wp2_with fail
  refine H1.out.mono ?_
  rintro e w2 ⟨rfl, h2, -⟩
  have H2 : Hidden (Calls Try.prog 30 #[.pointer (some ⟨xb, 0, none⟩), .int .u64 9] w2 fun e w' => e = .returned (.int .i64 0) ∧ XM w w' xb 4000 [5, 9] 1000 [] ∧ XK w [] w2 w') := ⟨xm_insert_fit 9 (by decide) h2 (by decide)⟩
  clear h2 H1
  go_wp2_with fail
  refine H2.out.mono ?_
  rintro e w3 ⟨rfl, h3, -⟩
  have H3 : Hidden (Calls Try.prog 30 #[.pointer (some ⟨xb, 0, none⟩), .int .u64 9] w3 fun e w' => e = .returned (.int .i64 4) ∧ XM w w' xb 4000 [5, 9] 1000 [] ∧ XK w [] w3 w') := ⟨xm_insert_fit 9 (by decide) h3 (by decide)⟩
  clear h3 H2
  go_wp2_with fail
  refine H3.out.mono ?_
  rintro e w4 ⟨rfl, h4, -⟩
  have H4 : Hidden (Calls Try.prog 17 #[.pointer (some ⟨xb, 0, none⟩), .int .u64 6] w4 fun e w' => e = .returned (.tuple #[.int .u64 9, .bool true]) ∧ XM w w' xb 4000 [5, 9] 9 [] ∧ XK w [] w4 w') := ⟨xm_next 6 (by decide) h4⟩
  clear h4 H3
  go_wp2_with fail
  refine H4.out.mono ?_
  rintro e w5 ⟨rfl, h5, -⟩
  have H5 : Hidden (Calls Try.prog 16 #[.pointer (some ⟨xb, 0, none⟩), .int .u64 8] w5 fun e w' => e = .returned (.tuple #[.int .u64 5, .bool true]) ∧ XM w w' xb 4000 [5, 9] 9 [] ∧ XK w [] w5 w') := ⟨xm_prev 8 (by decide) h5⟩
  clear h5 H4
  go_wp2_with fail
  refine H5.out.mono ?_
  rintro e w6 ⟨rfl, h6, -⟩
  have H6 : Hidden (Calls Try.prog 44 #[.pointer (some ⟨xb, 0, none⟩)] w6 fun e w' => e = .returned (.int .i64 2) ∧ w6 = w') := ⟨xm_len h6⟩
  have HM := Hidden.mk h6.facts.2.2.2.2
  clear h6 H5
  go_wp2_with fail
  refine H6.out.mono ?_
  rintro e w7 ⟨rfl, rfl⟩
  go_wp2_with fail
  go_ret
  exact ⟨rfl, HM.out⟩
end Go.Proofs.Ytfioekkegihkoaa

/- stepstonelaw14: shared. -/
namespace Go.Proofs.Ytfioekkegihkoaa
open Go.RowKit
set_option linter.unusedVariables false
set_option linter.unusedSimpArgs false
/-- Keys as links, all at no place. -/
def soloC (l : List Int) : CL := l.map (fun x => (0, x))
theorem IsLong.nil_ (k : Int) : IsLong [] k (-1) := ⟨by omega, by omega, fun c hc => by simp [msk]; omega⟩
theorem IsLong.snoc {A : CL} {k z : Int} {x : Int} {n : Nat} (h : IsLong A k z) (hn : n ≤ 64) (h1 : pfx x n = pfx k n) (h2 : n < 64 → pfx x (n + 1) ≠ pfx k (n + 1)) : IsLong (A ++ [(0, x)]) k (max z n) := by
  obtain ⟨g1, g2, g3⟩ := h
  refine ⟨by omega, by omega, fun c hc => ?_⟩
  have e1 : msk [((0 : Nat), x)] c (pfx k c) ≠ [] ↔ c ≤ n := by
    constructor
    · intro hh
      rcases Nat.lt_or_ge n c with h4 | h4
      · obtain ⟨f, hf⟩ := List.exists_mem_of_ne_nil _ hh
        obtain ⟨hf1, hf2⟩ := msk_mem.1 hf
        obtain rfl := List.mem_singleton.1 hf1
        exact absurd (pfx_down (show n + 1 ≤ c by omega) hc hf2) (h2 (by omega))
      · exact h4
    · intro hh
      exact List.ne_nil_of_mem (a := ((0 : Nat), x)) (msk_mem.2 ⟨by simp, pfx_down hh hn h1⟩)
  rw [msk_app]
  have e2 : msk A c (pfx k c) ++ msk [((0 : Nat), x)] c (pfx k c) ≠ [] ↔ msk A c (pfx k c) ≠ [] ∨ msk [((0 : Nat), x)] c (pfx k c) ≠ [] := by
    rw [Ne, List.append_eq_nil_iff]
    constructor
    · intro hh
      by_cases h5 : msk A c (pfx k c) = []
      · exact .inr (fun h6 => hh ⟨h5, h6⟩)
      · exact .inl h5
    · rintro (hh | hh) ⟨h5, h6⟩
      · exact hh h5
      · exact hh h6
  rw [e2, e1, ← g3 c hc]
  omega
set_option maxHeartbeats 4000000 in
set_option maxRecDepth 100000 in
theorem shared14 {w : World} {v : Value} {l : List Int} (k : Int) (hk : 0 ≤ k ∧ k < 18446744073709551616) (h : ISl .u64 w v l) (hl : ∀ x ∈ l, 0 ≤ x ∧ x < 18446744073709551616) :
    Calls Try.prog 20 #[v, .int .u64 k] w fun e w' => ∃ z, e = .returned (.int .i64 z) ∧ IsLong (soloC l) k z ∧ ∃ q, w' = w.drewN q := by
  obtain ⟨a, cap, rfl, _⟩ := h.slice_
  have H := Hidden.mk (And.intro h (And.intro hl hk))
  obtain ⟨hk0, hk1⟩ := hk
  clear h hl
  go_enter Try.func20, Try.ntmps20
  go_wp2_with fail
  go_loopw [5, 11] (fun bv iv wr => ∃ (i : Nat) (z : Int), i ≤ l.length ∧ bv = .int .i64 z ∧ iv = .int .i64 i ∧ IsLong (soloC (l.take i)) k z ∧ ∃ q, wr = w.drewN q) (fun _ iv _ => l.length - (intOf iv).toNat)
  case atStart => exact ⟨0, -1, by omega, rfl, rfl, IsLong.nil_ k, 0, rfl⟩
  case round =>
    obtain ⟨i, z, hi, rfl, rfl, hz, q, rfl⟩ := hrel
    by_cases hin : i < l.length
    · obtain ⟨b, off, x, rfl, hbl, hx, hc⟩ := H.out.1.get hin
      have hx2 := H.out.2.1 x (List.mem_of_getElem? hx)
      have HZ := Hidden.mk (show ∀ n : Nat, n ≤ 64 → pfx x n = pfx k n → (n < 64 → pfx x (n + 1) ≠ pfx k (n + 1)) → IsLong (soloC (l.take (i + 1))) k (max z n) from fun n h1 h2 h3 => by
        rw [List.take_add_one, hx]; unfold soloC; rw [List.map_append]; exact hz.snoc h1 h2 h3)
      have hzb : -1 ≤ z ∧ z ≤ 64 := ⟨hz.1, hz.2.1⟩
      have hw1 : IntKind.i64.wrap ((i : Int) + 1) = i + 1 := IntWalk.i64_in _ (by omega)
      obtain ⟨hx0, hx1⟩ := hx2
      have HP0 := Hidden.mk (show pfx x 0 = pfx k 0 from by rw [pfx_none ⟨hx0, hx1⟩, pfx_none ⟨hk0, hk1⟩])
      clear hx hz
      go_wp2_with fail
      go_loopw [8] (fun nv wr => ∃ (n q : Nat), n ≤ 64 ∧ nv = .int .i64 n ∧ pfx x n = pfx k n ∧ wr = w.drewN q) (fun nv _ => 64 - (intOf nv).toNat)
      case atStart => exact ⟨0, q, by omega, rfl, HP0.out, rfl⟩
      case round =>
        obtain ⟨n, q', hn, rfl, hp, rfl⟩ := hrel
        clear HP0
        have hp' := Hidden.mk hp
        clear hp
        by_cases hlt : n < 64
        · have ew : IntKind.i64.wrap (63 - (n : Int)) = 63 - n := IntWalk.i64_in _ (by omega)
          have ew1 : IntKind.i64.wrap ((n : Int) + 1) = n + 1 := IntWalk.i64_in _ (by omega)
          have e : ∀ y : Int, y / 2 ^ (63 - n) = pfx y (n + 1) := fun y => by unfold pfx; rw [show 64 - (n + 1) = 63 - n from by omega]
          have hlt2 : decide ((n : Int) < 64) = true := decide_eq_true (by omega)
          by_cases hq : pfx x (n + 1) = pfx k (n + 1)
          · have hb : (x / 2 ^ (63 - n) == k / 2 ^ (63 - n)) = true := by rw [e, e, hq]; simp
            have HQ := Hidden.mk hq
            clear hq e
            go_wp2_with fail
            go_quiet (fail)
            go_wp2_with fail
            go_roundw
            case rel => exact ⟨n + 1, _, by omega, rfl, HQ.out, rfl⟩
            case measure => simp [intOf]; omega
          · have hb : (x / 2 ^ (63 - n) == k / 2 ^ (63 - n)) = false := by rw [e, e]; exact beq_eq_false_iff_ne.2 hq
            have HL := Hidden.mk (HZ.out n hn hp'.out (fun _ => hq))
            clear hq e
            go_wp2_with fail
            go_quiet (fail)
            go_wp2_with fail
            go_roundw
            case rel => exact ⟨i + 1, max z n, by omega, rfl, rfl, HL.out, _, rfl⟩
            case measure => simp [intOf]; omega
        · obtain rfl : n = 64 := by omega
          have HL := Hidden.mk (HZ.out 64 hn hp'.out (fun h => by omega))
          clear hlt
          go_wp2_with fail
          go_quiet (fail)
          go_wp2_with fail
          go_roundw
          case rel => exact ⟨i + 1, max z 64, by omega, rfl, rfl, HL.out, _, rfl⟩
          case measure => simp [intOf]; omega
    · obtain rfl : i = l.length := by omega
      have HZ := Hidden.mk hz
      clear hz
      go_wp2_with fail
      go_ret
      exact ⟨z, rfl, by have := HZ.out; rwa [List.take_length] at this, q, rfl⟩
end Go.Proofs.Ytfioekkegihkoaa

/- x-fast tries (plain): which neighbour shares the longest beginning. -/
namespace Go.Proofs.Ytfioekkegihkoaa
set_option linter.unusedVariables false
theorem solo_long {L : CL} {k z : Int} {e : Nat × Int} (h : IsLong L k z) (he : e ∈ L) {b : Nat} (hz : (b : Int) = z) (hp : pfx e.2 b = pfx k b) : IsLong (soloC [e.2]) k z := by
  obtain ⟨h1, h2, h3⟩ := h
  refine ⟨h1, h2, fun c hc => ⟨fun hh => List.ne_nil_of_mem (a := ((0 : Nat), e.2)) (msk_mem.2 ⟨by simp [soloC], pfx_down (show c ≤ b by omega) (by omega) hp⟩), fun hh => ?_⟩⟩
  obtain ⟨f, hf⟩ := List.exists_mem_of_ne_nil _ hh
  obtain ⟨hf1, hf2⟩ := msk_mem.1 hf
  simp only [soloC, List.map_cons, List.map_nil, List.mem_singleton] at hf1
  subst hf1
  exact (h3 c hc).2 (List.ne_nil_of_mem (msk_mem.2 ⟨he, hf2⟩))
/-- Of a key that is not there one neighbour shares the longest beginning. -/
theorem near_plain {A B : CL} {k z : Int} (h : IsLong (A ++ B) k z) (hk : 0 ≤ k ∧ k < 18446744073709551616) (h64 : ∀ e ∈ A ++ B, 0 ≤ e.2 ∧ e.2 < 18446744073709551616) (hu : (A ++ B).Pairwise (fun e f => e.2 < f.2)) (hA : ∀ e ∈ A, e.2 < k) (hB : ∀ e ∈ B, k < e.2) (hne : A ++ B ≠ []) :
    (∃ A' a, A = A' ++ [a] ∧ IsLong (soloC [a.2]) k z) ∨ (∃ b B', B = b :: B' ∧ IsLong (soloC [b.2]) k z) := by
  have hz0 : 0 ≤ z := by
    have := (h.2.2 0 (by omega)).2 (by
      obtain ⟨e, he⟩ := List.exists_mem_of_ne_nil _ hne
      exact List.ne_nil_of_mem (msk_mem.2 ⟨he, by rw [pfx_none (h64 e he), pfx_none hk]⟩))
    omega
  obtain ⟨b, hb⟩ := Int.eq_ofNat_of_zero_le hz0
  have hm := (h.2.2 b (by have := h.2.1; omega)).1 (by omega)
  obtain ⟨e, he⟩ := List.exists_mem_of_ne_nil _ hm
  obtain ⟨he1, he2⟩ := msk_mem.1 he
  obtain ⟨uA, uB, uAB⟩ := List.pairwise_append.1 hu
  rcases List.mem_append.1 he1 with hA1 | hB1
  · left
    obtain ⟨A', a, rfl⟩ : ∃ A' a, A = A' ++ [a] := ⟨A.dropLast, A.getLast (List.ne_nil_of_mem hA1), (List.dropLast_concat_getLast _).symm⟩
    refine ⟨A', a, rfl, solo_long h (by simp) hb.symm ?_⟩
    have h1 : e.2 ≤ a.2 := by
      rcases List.mem_append.1 hA1 with h2 | h2
      · exact Int.le_of_lt ((List.pairwise_append.1 uA).2.2 e h2 a (by simp))
      · rw [List.mem_singleton.1 h2]; exact Int.le_refl _
    have h3 := pfx_le b h1
    have h4 := pfx_le b (Int.le_of_lt (hA a (by simp)))
    omega
  · right
    cases B with
    | nil => simp at hB1
    | cons b0 B' =>
      refine ⟨b0, B', rfl, solo_long h (by simp) hb.symm ?_⟩
      have h1 : b0.2 ≤ e.2 := by
        rcases List.mem_cons.1 hB1 with rfl | h2
        · exact Int.le_refl _
        · exact Int.le_of_lt ((List.pairwise_cons.1 uB).1 e h2)
      have h3 := pfx_le b h1
      have h4 := pfx_le b (Int.le_of_lt (hB b0 (by simp)))
      omega
theorem getD_mid (A B : List Int) (x : Int) : (A ++ x :: B).getD A.length 0 = x := by rw [List.getD_eq_getElem?_getD, List.getElem?_append_right (Nat.le_refl _), Nat.sub_self]; rfl
theorem near_keys {L : CL} {X : List Int} {k z : Int} (hX : keysC L = X) (hR : X.Pairwise (· < ·)) (hb : ∀ x ∈ X, 0 ≤ x ∧ x < 18446744073709551616) (hk : 0 ≤ k ∧ k < 18446744073709551616) (hm : k ∉ X) (h0 : X.length ≠ 0) (h : IsLong L k z) :
    rk X k ≤ X.length ∧ (0 < rk X k → prevL64 X k = (X.getD (rk X k - 1) 0, true)) ∧ (rk X k = 0 → prevL64 X k = (0, false)) ∧ (rk X k < X.length → selL X (rk X k) = (X.getD (rk X k) 0, true)) ∧ (¬ rk X k < X.length → selL X (rk X k) = (0, false)) ∧
    ((0 < rk X k ∧ IsLong (soloC [X.getD (rk X k - 1) 0]) k z) ∨ (rk X k < X.length ∧ IsLong (soloC [X.getD (rk X k) 0]) k z)) := by
  have hle := rk_le X k
  refine ⟨hle, fun h1 => ?_, fun h1 => ?_, fun h1 => selL_yes h1, fun h1 => selL_no (by omega), ?_⟩
  · unfold prevL64; rw [if_neg hm, show ((rk X k : Int) - 1) = ((rk X k - 1 : Nat) : Int) from by omega, selL_yes (by omega)]
  · unfold prevL64; rw [if_neg hm, selL_no (by omega)]
  · subst hX
    have hu : L.Pairwise (fun e f => e.2 < f.2) := List.pairwise_map.1 hR
    obtain ⟨A, B, rfl, hA, hB0⟩ := split_at k hu
    have hB : ∀ e ∈ B, k < e.2 := fun e he => by
      rcases Int.lt_or_le k e.2 with h | h
      · exact h
      · have hke : e.2 = k := by have := hB0 e he; omega
        exact absurd (keysC_mem.2 ⟨e, by simp [he], hke⟩) hm
    have hr := rk_split hA hB0
    rw [hr]
    have hne : A ++ B ≠ [] := fun hh => h0 (by rw [hh]; rfl)
    rcases near_plain h hk (fun e he => hb _ (keysC_mem.2 ⟨e, he, rfl⟩)) hu hA hB hne with ⟨A', a, rfl, h2⟩ | ⟨b, B', rfl, h2⟩
    · refine .inl ⟨by simp, ?_⟩
      rw [show (A' ++ [a]).length - 1 = (keysC A').length from by simp [keysC], show keysC (A' ++ [a] ++ B) = keysC A' ++ a.2 :: keysC B from by simp [keysC], getD_mid]; exact h2
    · refine .inr ⟨by simp [keysC], ?_⟩
      rw [← keysC_len A, show keysC (A ++ b :: B') = keysC A ++ b.2 :: keysC B' from by simp [keysC], getD_mid]; exact h2
end Go.Proofs.Ytfioekkegihkoaa
