/- The hash table: Put. -/
import Derived.Test.YtnbanbfnabhjjaaHash4
namespace Go.Proofs.Ytnbanbfnabhjjaa
open Go.RowKit
set_option linter.unusedVariables false
set_option linter.unusedSimpArgs false

theorem pow_small {b n : Nat} (h : b = 3 ∨ 2 ^ b ≤ 8 * n) (hn : n ≤ 1073741824) : b ≤ 33 := by
  rcases h with rfl | h
  · omega
  · have : 2 ^ b ≤ 2 ^ 33 := Nat.le_trans h (by have : (2 : Nat) ^ 33 = 8589934592 := by decide
                                                omega)
    exact (Nat.pow_le_pow_iff_right (by omega)).1 this
set_option maxHeartbeats 400000 in
theorem hash_put_nil (k : HK) (v : Int) (w : World) : Calls Try.prog 38 #[.pointer none, keyV k, .int .u64 v] w fun e w' => e = .returned (.bool false) ∧ Mod [] w w' := by
  unfold keyV
  go_enter Try.func38, Try.ntmps38
  go_wp2
  go_ret
  exact ⟨rfl, (Mod.refl _ w).alloc _⟩
set_option maxRecDepth 100000 in
set_option maxHeartbeats 2000000 in
theorem hash_put {w : World} {tb mb b : Nat} {F : List Nat} {pr : Int} {l : List (HK × Int)} (k : HK) (v : Int) (hk : KeyOK k) (h : TabAt w tb mb F b pr l) (hln : l.length ≤ 1073741824) :
    Calls Try.prog 38 #[.pointer (some ⟨tb, 0, none⟩), keyV k, .int .u64 v] w fun e w' => e = .returned (.bool (lk l k).isNone) ∧
      ∃ F' b' pr', TabAt w' tb mb F' b' pr' (putL l k v) ∧ Mod F w w' ∧ (∀ q ∈ F', q ∈ F ∨ w.heap.size ≤ q) ∧ 1 ≤ pr' ∧ pr' ≤ ((2 ^ b : Nat) : Int) := by
  have hnd := h.nodup
  obtain ⟨pb, seed, L, rfl, h⟩ := h
  obtain ⟨z, hz, hfree⟩ := h.free
  have hlt := h.tab.blk.lt
  have hplt := h.tab.places.lt
  have hne := h.tab.ne
  have hKb : Blk (w.alloc (.cells #[.int .u8 k.1, .int .u64 k.2] 64)) w.heap.size 64 #[.int .u8 k.1, .int .u64 k.2] := Blk.new _ _ _
  have hf := find_any tb mb pb b l.length seed pr L k (w.alloc (.cells #[.int .u8 k.1, .int .u64 k.2] 64)) (h.tab.mod ((Mod.refl [] w).alloc _) (by simp) (by simp)) hk hz hfree
  have H : Hidden (TabS w tb mb pb b seed pr L l) := ⟨h⟩
  have hM : Mod [tb, pb] w (w.alloc (.cells #[.int .u8 k.1, .int .u64 k.2] 64)) := (Mod.refl _ w).alloc _
  clear h hz hfree
  obtain ⟨k1, k2⟩ := k
  unfold keyV at hf ⊢
  simp only at hKb hf hM
  go_enter Try.func38, Try.ntmps38
  go_wp2_with fail
  refine hf.mono ?_
  clear hf
  rintro e w2 ⟨d, hd, rfl, ht2, hmod3⟩
  have hst := stop_lk ht2.inv H.out.perm hd
  have hu := up_spec (ht2.inv.home (k1, k2)) hd.lt
  have hdl := hd.lt
  have hKb2 := hKb.mod hmod3 (by simp; omega)
  have x0 : w2.cell? ⟨w.heap.size, 0, none⟩ = some (.int .u8 k1) := hKb2.cell 0
  have x1 : w2.cell? ⟨w.heap.size, 1, none⟩ = some (.int .u64 k2) := hKb2.cell 1
  have hM2 := hM.trans hmod3 (by simp)
  have hput := hd.put ht2.inv v
  have hpe := ents_set hu.1 (some ((k1, k2), v))
  have hN2 := ht2.N2
  have hul := hu.1
  have hc1 : w2.cell? ⟨tb, 1, none⟩ = some (.slice (some ⟨pb, 0, none⟩) L.length L.length) := ht2.blk.cell 1
  have hc3 : w2.cell? ⟨tb, 3, none⟩ = some (.int .i64 l.length) := ht2.blk.cell 3
  have hf3 := ht2.blk.frozen 3
  have hlt2 := ht2.blk.lt
  have hplt2 := ht2.places.lt
  have hpr : Hidden (1 ≤ (d : Int) + 1 ∧ (d : Int) + 1 ≤ ((2 ^ b : Nat) : Int)) := ⟨by omega, by rw [← ht2.len]; omega⟩
  have hkeys : Hidden (∀ e ∈ (ents (L.set (up L.length (homeF seed b (k1, k2)) d) (some ((k1, k2), v)))), KeyOK e.1) := ⟨fun e he => by
    have : e ∈ (some ((k1, k2), v)).toList ++ ents L := by
      refine hpe.symm.mem_iff.1 ?_
      exact List.mem_append_right _ he
    simp only [Option.toList_some, List.singleton_append, List.mem_cons] at this
    rcases this with rfl | hm
    · exact hk
    · exact ht2.keys e hm⟩
  have q0 := place_cell ht2.places hu.1 0 (by omega)
  have q1 := place_cell ht2.places hu.1 1 (by omega)
  have q2 := place_cell ht2.places hu.1 2 (by omega)
  have q3 := place_cell ht2.places hu.1 3 (by omega)
  have g0 := ht2.places.frozen (up L.length (homeF seed b (k1, k2)) d * 4)
  have g1 := ht2.places.frozen (up L.length (homeF seed b (k1, k2)) d * 4 + 1)
  have g2 := ht2.places.frozen (up L.length (homeF seed b (k1, k2)) d * 4 + 2)
  have g3 := ht2.places.frozen (up L.length (homeF seed b (k1, k2)) d * 4 + 3)
  rcases hst with ⟨hp, hl⟩ | ⟨u, hp, hl⟩
  · rw [hp] at q0 q1 q2 q3 hpe ⊢
    simp only [encE, Nat.add_zero, List.getElem?_cons_zero, List.getElem?_cons_succ, Option.toList_none, Option.toList_some, List.nil_append, List.singleton_append, Option.isSome_none] at q0 q1 q2 q3 hpe ⊢
    generalize hU : up L.length (homeF seed b (k1, k2)) d = u at *
    have hT4 : TabIn (((((w2.setCell ⟨pb, u * 4, none⟩ (.int .u8 k1)).setCell ⟨pb, u * 4 + 1, none⟩ (.int .u64 k2)).setCell ⟨pb, u * 4 + 2, none⟩ (.int .u64 v)).setCell ⟨pb, u * 4 + 3, none⟩ (.bool true)).setCell ⟨tb, 3, none⟩ (.int .i64 ((l.length : Int) + 1))) tb mb pb b seed (L.set u (some ((k1, k2), v))) (l.length + 1) ((d : Int) + 1) := by
      refine ⟨?_, (places_set ht2.places hul (some ((k1, k2), v)) rfl).far (p := ⟨tb, 3, none⟩) (Ne.symm hne) _, by rw [List.length_set]; exact ht2.len, ht2.b3, ht2.b40, hput, hkeys.out⟩
      rw [List.length_set]
      exact ((((ht2.blk.far (p := ⟨pb, u * 4, none⟩) hne _).far (p := ⟨pb, u * 4 + 1, none⟩) hne _).far (p := ⟨pb, u * 4 + 2, none⟩) hne _).far (p := ⟨pb, u * 4 + 3, none⟩) hne _).set 3 _
    have hM4 : Mod [tb, pb] w (((((w2.setCell ⟨pb, u * 4, none⟩ (.int .u8 k1)).setCell ⟨pb, u * 4 + 1, none⟩ (.int .u64 k2)).setCell ⟨pb, u * 4 + 2, none⟩ (.int .u64 v)).setCell ⟨pb, u * 4 + 3, none⟩ (.bool true)).setCell ⟨tb, 3, none⟩ (.int .i64 ((l.length : Int) + 1))) :=
      ((((hM2.set (.inl (by simp)) _).set (.inl (by simp)) _).set (.inl (by simp)) _).set (.inl (by simp)) _).set (.inl (by simp)) _
    have hP4 : Hidden ((ents (L.set u (some ((k1, k2), v)))).Perm (putL l (k1, k2) v)) := ⟨by
      refine hpe.symm.trans ?_
      unfold putL; rw [filter_absent hl]
      exact List.Perm.cons _ H.out.perm⟩
    have HLk : Hidden (lk l (k1, k2) = none ∧ (putL l (k1, k2) v).length = l.length + 1) := ⟨hl, by unfold putL; rw [filter_absent hl]; rfl⟩
    have hsm : b = 3 ∨ 2 ^ b ≤ 8 * l.length := by
      rcases H.out.small with h | h
      · exact .inl h
      · right; rw [← ht2.len]; exact h
    have hb33 : b ≤ 33 := pow_small hsm hln
    have hb3' := ht2.b3
    have HB : Hidden (3 ≤ b + 1 ∧ b + 1 ≤ 40 ∧ 2 * L.length = 2 ^ (b + 1) ∧ (ents (L.set u (some ((k1, k2), v)))).length < 2 * L.length) := ⟨by omega, by omega, by rw [ht2.len, Nat.pow_succ]; omega, by rw [hP4.out.length_eq, HLk.out.2]; have := H.out.room; omega⟩
    have HT4 := Hidden.mk hT4
    have HM4 := Hidden.mk hM4
    clear hp hl hd hmod3 hKb hKb2 hM hM2 hput hpe hkeys hU hu ht2 hT4 hM4
    go_wp2_with fail
    refine wp_tail 9 (by kernel_rfl) (by kernel_rfl) ?_
    simp only [List.take_succ_cons, List.take_zero, List.drop_succ_cons, List.drop_zero]
    repeat still_step
    refine wpStill_nil ?_
    by_cases hroom : 2 * (l.length + 1) ≤ L.length
    · go_wp2_with fail
      go_quiet (fail)
      go_wp2_with fail
      go_ret
      rw [HLk.out.1]
      refine ⟨rfl, [tb, pb], b, (d : Int) + 1, ⟨pb, seed, _, rfl, ?_, hP4.out, by rw [HLk.out.2, List.length_set]; exact hroom, ?_⟩, HM4.out.drew.drewN _, fun q hq => .inl hq, hpr.out.1, hpr.out.2⟩
      · rw [HLk.out.2]; exact HT4.out.mod (((Mod.refl [] _).drew).drewN _) (by simp) (by simp)
      · rw [HLk.out.2, List.length_set]
        rcases H.out.small with h | h
        · exact .inl h
        · right; omega
    · have hlarge : (L.length : Int) < 2 * ((l.length : Int) + 1) := by omega
      go_wp2_with fail
      go_quiet (fail)
      go_wp2_with fail
      rw [show (2 * (L.length : Int)) = ((2 * L.length : Nat) : Int) from by omega]
      refine (rehash_any tb mb pb b (l.length + 1) (b + 1) (2 * L.length) seed ((d : Int) + 1) _ _ (HT4.out.mod ((Mod.refl [] _).drewN _) (by simp) (by simp)) HB.out.1 HB.out.2.1 HB.out.2.2.1 HB.out.2.2.2).mono ?_
      rintro e w5 ⟨rfl, pb', L', ht5, hpe5, hm5, hpb5⟩
      have hM5 := (HM4.out.drewN _).trans hm5 (by simp)
      have hsz : w.heap.size ≤ pb' := Nat.le_trans HM4.out.size hpb5
      have HR : Hidden (TabAt w5 tb mb [tb, pb'] (b + 1) ((d : Int) + 1) (putL l (k1, k2) v) ∧ Mod [tb, pb] w w5 ∧ w.heap.size ≤ pb') := by
        refine ⟨⟨pb', seed, L', rfl, ?_, hpe5.trans hP4.out, ?_, ?_⟩, hM5, hsz⟩
        · rw [HLk.out.2]; exact ht5
        · rw [HLk.out.2, ht5.len, ← HB.out.2.2.1]; have := H.out.room; omega
        · rw [HLk.out.2, ht5.len, ← HB.out.2.2.1]; right; omega
      clear ht5 hpe5 hm5 hpb5 hM5 hsz
      go_wp2_with fail
      go_ret
      rw [HLk.out.1]
      refine ⟨rfl, _, _, _, HR.out.1, HR.out.2.1, ?_, hpr.out.1, hpr.out.2⟩
      intro q hq; simp only [List.mem_cons, List.not_mem_nil, or_false] at hq ⊢
      rcases hq with rfl | rfl
      · exact .inl (.inl rfl)
      · exact .inr HR.out.2.2
  · rw [hp] at q0 q1 q2 q3 hpe ⊢
    simp only [encE, Nat.add_zero, List.getElem?_cons_zero, List.getElem?_cons_succ, Option.toList_some, List.singleton_append, Option.isSome_some] at q0 q1 q2 q3 hpe ⊢
    generalize hU : up L.length (homeF seed b (k1, k2)) d = i at *
    have hself : (((((w2.setCell ⟨pb, i * 4, none⟩ (.int .u8 k1)).setCell ⟨pb, i * 4 + 1, none⟩ (.int .u64 k2)).setCell ⟨pb, i * 4 + 2, none⟩ (.int .u64 v)).setCell ⟨pb, i * 4 + 3, none⟩ (.bool true))).heap[pb]? = (w2.setCell ⟨pb, i * 4 + 2, none⟩ (.int .u64 v)).heap[pb]? := by
      have e1 := ((((ht2.places.set (i * 4) (.int .u8 k1)).set (i * 4 + 1) (.int .u64 k2)).set (i * 4 + 2) (.int .u64 v)).set (i * 4 + 3) (.bool true))
      have e2 := ht2.places.set (i * 4 + 2) (.int .u64 v)
      unfold Blk at e1 e2
      rw [e1, e2]; congr 2
      have hx : ∀ (j : Nat) (x : Value), j < 4 → (encE (some ((k1, k2), u)))[j]? = some x → (L.flatMap encE)[i * 4 + j]? = some x := by
        intro j x hj hx
        rw [flat_get encE 4 encE_len _ _ _ hj, pl_get hul, hp]; exact hx
      have hx0 := hx 0 _ (by omega) rfl
      have hx1 := hx 1 _ (by omega) rfl
      have hx3 := hx 3 _ (by omega) rfl
      simp only [Nat.add_zero] at hx0
      apply Array.ext'
      simp only [toArray_set]
      apply List.ext_getElem?
      intro n
      simp only [List.getElem?_set, List.length_set]
      grind
    have hpl2 : Blk (w2.setCell ⟨pb, i * 4 + 2, none⟩ (.int .u64 v)) pb 123 ((L.set i (some ((k1, k2), v))).flatMap encE).toArray := by
      have := places_set ht2.places hul (some ((k1, k2), v)) rfl
      unfold Blk at this ⊢; rw [← hself]; exact this
    have HLk : Hidden (lk l (k1, k2) = some u) := ⟨hl⟩
    have hpp : (ents (L.set i (some ((k1, k2), v)))).Perm (putL l (k1, k2) v) := by
      have h1 : (((k1, k2), u) :: ents (L.set i (some ((k1, k2), v)))).Perm (((k1, k2), u) :: putL l (k1, k2) v) := by
        refine hpe.symm.trans ?_
        refine (List.Perm.cons _ (H.out.perm.trans (filter_present hnd (lk_mem hl)))).trans ?_
        exact List.Perm.swap _ _ _
      exact h1.cons_inv
    have hlen2 : (putL l (k1, k2) v).length = l.length := by
      have := (filter_present hnd (lk_mem hl)).length_eq
      unfold putL; simpa using this.symm
    have HR : Hidden (TabAt (w2.setCell ⟨pb, i * 4 + 2, none⟩ (.int .u64 v)) tb mb [tb, pb] b ((d : Int) + 1) (putL l (k1, k2) v) ∧ Mod [tb, pb] w (w2.setCell ⟨pb, i * 4 + 2, none⟩ (.int .u64 v))) := by
      refine ⟨⟨pb, seed, _, rfl, ?_, hpp, by rw [hlen2, List.length_set]; exact H.out.room, by rw [hlen2, List.length_set]; exact H.out.small⟩, hM2.set (.inl (by simp)) _⟩
      rw [hlen2]
      exact ⟨by rw [List.length_set]; exact ht2.blk.far (p := ⟨pb, i * 4 + 2, none⟩) hne _, hpl2, by rw [List.length_set]; exact ht2.len, ht2.b3, ht2.b40, hput, hkeys.out⟩
    clear hp hl hd hmod3 hKb hKb2 hM hM2 hput hpe hkeys hU hu ht2 hself hpl2 hpp hlen2
    go_wp2_with fail
    go_ret
    rw [HLk.out]
    exact ⟨rfl, _, _, _, HR.out.1, HR.out.2, fun q hq => .inl hq, hpr.out.1, hpr.out.2⟩
end Go.Proofs.Ytnbanbfnabhjjaa
