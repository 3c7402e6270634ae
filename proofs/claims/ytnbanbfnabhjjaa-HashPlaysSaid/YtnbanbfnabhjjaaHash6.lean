/- The hash table: Drop. -/
import Derived.Test.YtnbanbfnabhjjaaHash5
namespace Go.Proofs.Ytnbanbfnabhjjaa
open Go.RowKit
set_option linter.unusedVariables false
set_option linter.unusedSimpArgs false

set_option maxHeartbeats 400000 in
theorem hash_drop_nil (k : HK) (w : World) : Calls Try.prog 39 #[.pointer none, keyV k] w fun e w' => e = .returned (.bool false) ∧ Mod [] w w' := by
  unfold keyV
  go_enter Try.func39, Try.ntmps39
  go_wp2
  go_ret
  exact ⟨rfl, (Mod.refl _ w).alloc _⟩
/-- While an entry is taken out: the places, the hole, the next place to be looked at. -/
structure DropIn (w0 w : World) (tb mb pb b : Nat) (seed : Int) (n : Nat) (pr : Int) (l : List (HK × Int)) (z : Nat) (L : HT) (hole i : Nat) : Prop where
  blk : Blk w tb 112 (tabCells mb pb L.length seed n pr)
  places : Blk w pb 123 (L.flatMap encE).toArray
  len : L.length = 2 ^ b
  inv : DInv (homeF seed b) l L z hole i
  keys : ∀ e ∈ ents L, KeyOK e.1
  mod : Mod [tb, pb] w0 w
theorem DropIn.next {w0 w w' : World} {tb mb pb b : Nat} {seed : Int} {n : Nat} {pr : Int} {l : List (HK × Int)} {z : Nat} {L : HT} {hole i : Nat} (h : DropIn w0 w tb mb pb b seed n pr l z L hole i) (hm : Mod [] w w') : DropIn w0 w' tb mb pb b seed n pr l z L hole i :=
  ⟨h.blk.mod hm (by simp), h.places.mod hm (by simp), h.len, h.inv, h.keys, h.mod.trans hm (by simp)⟩
set_option maxRecDepth 100000 in
set_option maxHeartbeats 4000000 in
theorem hash_drop_loop (tb mb pb b : Nat) (seed : Int) (n : Nat) (pr : Int) (l : List (HK × Int)) (z : Nat) (L : HT) (i hole : Nat) (w0 wr : World) (e : HK × Int) (b3 : 3 ≤ b) (b40 : b ≤ 40) (h : DropIn w0 wr tb mb pb b seed n pr l z L hole i) (he : pl L i = some e) :
    (far L.length (homeF seed b e.1) i < far L.length hole i → DropIn w0 wr tb mb pb b seed n pr l z L hole (nx L.length i)) ∧
    (far L.length hole i ≤ far L.length (homeF seed b e.1) i → DropIn w0 ((((wr.setCell ⟨pb, hole * 4, none⟩ (.int .u8 e.1.1)).setCell ⟨pb, hole * 4 + 1, none⟩ (.int .u64 e.1.2)).setCell ⟨pb, hole * 4 + 2, none⟩ (.int .u64 e.2)).setCell ⟨pb, hole * 4 + 3, none⟩ (.bool true)) tb mb pb b seed n pr l z (L.set hole (some e)) i (nx L.length i)) ∧
    far L.length (nx L.length i) z + 1 = far L.length i z := by
  have hne := h.blk.ne h.places (by decide)
  refine ⟨fun hf => ⟨h.blk, h.places, h.len, (h.inv.stay he hf).1, h.keys, h.mod⟩, fun hf => ?_, ?_⟩
  · refine ⟨?_, places_set h.places h.inv.holeL (some e) rfl, by rw [List.length_set]; exact h.len, ?_, ?_, ?_⟩
    · rw [List.length_set]
      exact (((h.blk.far (p := ⟨pb, hole * 4, none⟩) hne _).far (p := ⟨pb, hole * 4 + 1, none⟩) hne _).far (p := ⟨pb, hole * 4 + 2, none⟩) hne _).far (p := ⟨pb, hole * 4 + 3, none⟩) hne _
    · exact (h.inv.move he hf).1
    · intro e' he'
      obtain ⟨p, hp⟩ := mem_ents.1 he'
      rw [pl_set _ h.inv.holeL] at hp
      split at hp
      · cases hp; exact h.keys e (mem_ents.2 ⟨i, he⟩)
      · exact h.keys e' (mem_ents.2 ⟨p, hp⟩)
    · exact (((h.mod.set (.inl (by simp)) _).set (.inl (by simp)) _).set (.inl (by simp)) _).set (.inl (by simp)) _
  · rcases Nat.lt_or_ge (far L.length (homeF seed b e.1) i) (far L.length hole i) with hf | hf
    · exact (h.inv.stay he hf).2
    · exact (h.inv.move he hf).2
theorem bool_geq (a b : Nat) : decide ((b : Int) ≤ (a : Int)) = decide (b ≤ a) := by simp

set_option maxRecDepth 100000 in
set_option maxHeartbeats 4000000 in
theorem hash_drop_yes {w : World} {tb mb pb b : Nat} {seed pr : Int} {L : HT} {l : List (HK × Int)} (k : HK) (v : Int) (hk : KeyOK k) (h : TabS w tb mb pb b seed pr L l) (hnd : (l.map (·.1)).Nodup) (hl : lk l k = some v) :
    Calls Try.prog 39 #[.pointer (some ⟨tb, 0, none⟩), keyV k] w fun e w' => e = .returned (.bool true) ∧
      ∃ F' b' pr', TabAt w' tb mb F' b' pr' (dropL l k) ∧ Mod [tb, pb] w w' ∧ (∀ q ∈ F', q ∈ [tb, pb] ∨ w.heap.size ≤ q) ∧ 1 ≤ pr' ∧ pr' ≤ ((2 ^ b : Nat) : Int) := by
  obtain ⟨z, hz, hfree⟩ := h.free
  have hlt := h.tab.blk.lt
  have hplt := h.tab.places.lt
  have hne := h.tab.ne
  have hpd := filter_present hnd (lk_mem hl)
  have hlen := hpd.length_eq
  have hKb : Blk (w.alloc (.cells #[.int .u8 k.1, .int .u64 k.2] 64)) w.heap.size 64 #[.int .u8 k.1, .int .u64 k.2] := Blk.new _ _ _
  have hf := find_any tb mb pb b l.length seed pr L k (w.alloc (.cells #[.int .u8 k.1, .int .u64 k.2] 64)) (h.tab.mod ((Mod.refl [] w).alloc _) (by simp) (by simp)) hk hz hfree
  have H : Hidden (TabS w tb mb pb b seed pr L l) := ⟨h⟩
  have hM : Mod [tb, pb] w (w.alloc (.cells #[.int .u8 k.1, .int .u64 k.2] 64)) := (Mod.refl _ w).alloc _
  have HZ : Hidden (z < L.length ∧ pl L z = none ∧ lk l k = some v ∧ l.length = (dropL l k).length + 1 ∧ l.Perm ((k, v) :: dropL l k)) := ⟨hz, hfree, hl, by unfold dropL; simpa using hlen, hpd⟩
  clear h hz hfree hl hlen hpd
  obtain ⟨k1, k2⟩ := k
  unfold keyV at hf ⊢
  simp only at hKb hf hM
  go_enter Try.func39, Try.ntmps39
  go_wp2_with fail
  refine hf.mono ?_
  clear hf
  rintro e w2 ⟨d, hd, rfl, ht2, hmod3⟩
  have hst := stop_lk ht2.inv H.out.perm hd
  have hu := up_spec (ht2.inv.home (k1, k2)) hd.lt
  have hdl := hd.lt
  rcases hst with ⟨hp, hl⟩ | ⟨v', hp, hl⟩
  · rw [HZ.out.2.2.1] at hl; cases hl
  have hvv : v' = v := by have := HZ.out.2.2.1; rw [hl] at this; cases this; rfl
  subst hvv
  have hpr : Hidden (1 ≤ (d : Int) + 1 ∧ (d : Int) + 1 ≤ ((2 ^ b : Nat) : Int)) := ⟨by omega, by rw [← ht2.len]; omega⟩
  rw [hp]
  simp only [Option.isSome_some]
  generalize hU : up L.length (homeF seed b (k1, k2)) d = hole at *
  have hD0 : DropIn w w2 tb mb pb b seed l.length ((d : Int) + 1) (dropL l (k1, k2)) z L hole (nx L.length hole) :=
    ⟨ht2.blk, ht2.places, ht2.len, ht2.inv.del hp HZ.out.1 HZ.out.2.1 (H.out.perm.trans HZ.out.2.2.2.2), ht2.keys, hM.trans hmod3 (by simp)⟩
  have hb3 := ht2.b3
  have hb40 := ht2.b40
  have hN2 := ht2.N2
  have hnext := next_any tb pb hole L.length b w2 ht2.b40 ht2.len hu.1 (ht2.blk.cell 1)
  clear hp hl hd hmod3 hKb hM hU hu ht2
  go_wp2_with (go_at_call 84; refine hnext.mono ?_; clear hnext; rintro e w' ⟨rfl, rfl⟩)
  go_loopw [5, 7] (fun hv iv wr => ∃ (L' : HT) (hole i : Nat), hv = .int .i64 hole ∧ iv = .int .i64 i ∧ L'.length = L.length ∧ DropIn w wr tb mb pb b seed l.length ((d : Int) + 1) (dropL l (k1, k2)) z L' hole i) (fun _ iv _ => far L.length (intOf iv).toNat z)
  case atStart => exact ⟨L, hole, nx L.length hole, rfl, rfl, rfl, hD0⟩
  case round =>
    clear hD0
    obtain ⟨L', ho, i, rfl, rfl, hL', hD⟩ := hrel
    have hiL := hD.inv.iL
    have hhL := hD.inv.holeL
    have hc1 : wr.cell? ⟨tb, 1, none⟩ = some (.slice (some ⟨pb, 0, none⟩) L'.length L'.length) := hD.blk.cell 1
    have hc2 : wr.cell? ⟨tb, 2, none⟩ = some (.int .u64 seed) := hD.blk.cell 2
    have hc3 : wr.cell? ⟨tb, 3, none⟩ = some (.int .i64 l.length) := hD.blk.cell 3
    have hlt2 := hD.blk.lt
    have p0 := place_cell hD.places hiL 0 (by omega)
    have p1 := place_cell hD.places hiL 1 (by omega)
    have p3 := place_cell hD.places hiL 3 (by omega)
    have HD : Hidden (DropIn w wr tb mb pb b seed l.length ((d : Int) + 1) (dropL l (k1, k2)) z L' ho i) := ⟨hD⟩
    have HLL : Hidden (L'.length = L.length) := ⟨hL'⟩
    have hN3 : 8 ≤ L'.length ∧ L'.length ≤ 1099511627776 := by omega
    have hfull : ∃ e, pl L' ho = some e := by cases hx : pl L' ho with
      | none => exact absurd hx hD.inv.full
      | some e => exact ⟨e, rfl⟩
    obtain ⟨eh, heh⟩ := hfull
    cases hpi : pl L' i with
    | some e =>
      obtain ⟨⟨e1, e2⟩, ev⟩ := e
      rw [hpi] at p0 p1 p3
      simp only [encE, Nat.add_zero, List.getElem?_cons_zero, List.getElem?_cons_succ] at p0 p1 p3
      have hek := hD.keys _ (mem_ents.2 ⟨i, hpi⟩)
      have hhome := home_any tb pb seed e1 e2 b L'.length wr (by omega) hb40 hD.len hek.p hek.l0 hek.l1 hc1 hc2 hlt2
      have hhlt : homeF seed b (e1, e2) < L'.length := hD.inv.home _
      have hfar1 := fun W (hc : W.cell? ⟨tb, 1, none⟩ = some (.slice (some ⟨pb, 0, none⟩) L'.length L'.length)) => far_any tb pb (homeF seed b (e1, e2)) i L'.length b W hb40 hD.len hhlt hiL hc
      have hfar2 := fun W (hc : W.cell? ⟨tb, 1, none⟩ = some (.slice (some ⟨pb, 0, none⟩) L'.length L'.length)) => far_any tb pb ho i L'.length b W hb40 hD.len hhL hiL hc
      have hnext := fun W (hc : W.cell? ⟨tb, 1, none⟩ = some (.slice (some ⟨pb, 0, none⟩) L'.length L'.length)) => next_any tb pb i L'.length b W hb40 hD.len hiL hc
      have HPI : Hidden (pl L' i = some ((e1, e2), ev) ∧ pl L' ho = some eh) := ⟨hpi, heh⟩
      clear hL' hpi hek heh hD hc3
      go_wp2_with fail
      refine hhome.mono ?_
      clear hhome hc1 hc2 hlt2 p0 p1 p3
      rintro e w3 ⟨rfl, hm3⟩
      have hD := HD.out.next hm3
      have hloop := hash_drop_loop tb mb pb b seed l.length ((d : Int) + 1) (dropL l (k1, k2)) z L' i ho w w3 _ hb3 hb40 hD HPI.out.1
      have hc1 : w3.cell? ⟨tb, 1, none⟩ = some (.slice (some ⟨pb, 0, none⟩) L'.length L'.length) := hD.blk.cell 1
      have p0 := place_cell hD.places hiL 0 (by omega)
      have p1 := place_cell hD.places hiL 1 (by omega)
      have p2 := place_cell hD.places hiL 2 (by omega)
      have p3 := place_cell hD.places hiL 3 (by omega)
      have q0 := place_cell hD.places hhL 0 (by omega)
      have q1 := place_cell hD.places hhL 1 (by omega)
      have q2 := place_cell hD.places hhL 2 (by omega)
      have q3 := place_cell hD.places hhL 3 (by omega)
      have g0 := hD.places.frozen (ho * 4)
      have g1 := hD.places.frozen (ho * 4 + 1)
      have g2 := hD.places.frozen (ho * 4 + 2)
      have g3 := hD.places.frozen (ho * 4 + 3)
      rw [HPI.out.1] at p0 p1 p2 p3
      rw [HPI.out.2] at q0 q1 q2 q3
      simp only [encE, Nat.add_zero, List.getElem?_cons_zero, List.getElem?_cons_succ] at p0 p1 p2 p3 q0 q1 q2 q3
      have hlt2 := hD.blk.lt
      have hplt2 := hD.places.lt
      have HLP := Hidden.mk hloop
      have HDD := Hidden.mk hD
      clear hm3 HD hD hloop
      go_wp2_with fail
      refine (hfar1 _ hc1).mono ?_
      clear hfar1
      rintro e w' ⟨rfl, rfl⟩
      go_wp2_with fail
      refine (hfar2 _ hc1).mono ?_
      clear hfar2
      rintro e w' ⟨rfl, rfl⟩
      rcases Nat.lt_or_ge (far L'.length (homeF seed b (e1, e2)) i) (far L'.length ho i) with hcmp | hcmp
      · have hD2 := HLP.out.1 hcmp
        have HD2 := Hidden.mk hD2
        clear hD2
        go_wp2_with fail
        refine (hnext _ hc1).mono ?_
        rintro e w' ⟨rfl, rfl⟩
        go_wp2_with fail
        go_roundw
        case rel => exact ⟨L', ho, nx L'.length i, rfl, rfl, HLL.out, HD2.out⟩
        case measure => simp only [intOf, Int.toNat_natCast]; have := HLP.out.2.2; rw [← HLL.out]; omega
      · have hD2 := HLP.out.2.1 hcmp
        have HD2 := Hidden.mk hD2
        have hc12 : (((((w3.setCell ⟨pb, ho * 4, none⟩ (.int .u8 e1)).setCell ⟨pb, ho * 4 + 1, none⟩ (.int .u64 e2)).setCell ⟨pb, ho * 4 + 2, none⟩ (.int .u64 ev)).setCell ⟨pb, ho * 4 + 3, none⟩ (.bool true)).drew).cell? ⟨tb, 1, none⟩ = some (.slice (some ⟨pb, 0, none⟩) L'.length L'.length) := by
          have := hD2.blk.cell 1
          rw [List.length_set] at this; exact this
        have hnx := hnext _ hc12
        clear hD2 hc12
        go_wp2_with fail
        refine wp_tail 13 (by kernel_rfl) (by kernel_rfl) ?_
        simp only [List.take_succ_cons, List.take_zero, List.drop_succ_cons, List.drop_zero]
        repeat still_step
        refine wpStill_nil ?_
        go_wp2_with fail
        refine hnx.mono ?_
        clear hnx hnext hc1
        rintro e w' ⟨rfl, rfl⟩
        go_wp2_with fail
        go_roundw
        case rel => exact ⟨_, i, nx L'.length i, rfl, rfl, by rw [List.length_set]; exact HLL.out, HD2.out.next (Mod.refl [] _).drew⟩
        case measure => simp only [intOf, Int.toNat_natCast]; have := HLP.out.2.2; rw [← HLL.out]; omega
    | none =>
      rw [hpi] at p0 p1 p3
      simp only [encE, Nat.add_zero, List.getElem?_cons_zero, List.getElem?_cons_succ] at p0 p1 p3
      have q0 := place_cell hD.places hhL 0 (by omega)
      have q1 := place_cell hD.places hhL 1 (by omega)
      have q2 := place_cell hD.places hhL 2 (by omega)
      have q3 := place_cell hD.places hhL 3 (by omega)
      have g0 := hD.places.frozen (ho * 4)
      have g1 := hD.places.frozen (ho * 4 + 1)
      have g2 := hD.places.frozen (ho * 4 + 2)
      have g3 := hD.places.frozen (ho * 4 + 3)
      rw [heh] at q0 q1 q2 q3
      simp only [encE, Nat.add_zero, List.getElem?_cons_zero, List.getElem?_cons_succ] at q0 q1 q2 q3
      have hf3 := hD.blk.frozen 3
      have hplt2 := hD.places.lt
      obtain ⟨hinv, hperm⟩ := hD.inv.done hpi
      have hln := HZ.out.2.2.2.1
      generalize hl' : dropL l (k1, k2) = l' at *
      have hc3' : wr.cell? ⟨tb, 3, none⟩ = some (.int .i64 ((l'.length : Int) + 1)) := by rw [hc3, hln]; rfl
      have hkeys : ∀ e ∈ ents (L'.set ho none), KeyOK e.1 := by
        intro e' he'
        obtain ⟨p, hp⟩ := mem_ents.1 he'
        rw [pl_set _ hhL] at hp
        split at hp
        · cases hp
        · exact hD.keys e' (mem_ents.2 ⟨p, hp⟩)
      have hT : TabIn (((((wr.setCell ⟨pb, ho * 4, none⟩ (.int .u8 0)).setCell ⟨pb, ho * 4 + 1, none⟩ (.int .u64 0)).setCell ⟨pb, ho * 4 + 2, none⟩ (.int .u64 0)).setCell ⟨pb, ho * 4 + 3, none⟩ (.bool false)).setCell ⟨tb, 3, none⟩ (.int .i64 l'.length)) tb mb pb b seed (L'.set ho none) l'.length ((d : Int) + 1) := by
        refine ⟨?_, (places_set hD.places hhL none rfl).far (p := ⟨tb, 3, none⟩) (Ne.symm hne) _, by rw [List.length_set]; exact hD.len, hb3, hb40, hinv, hkeys⟩
        rw [List.length_set]
        exact ((((hD.blk.far (p := ⟨pb, ho * 4, none⟩) hne _).far (p := ⟨pb, ho * 4 + 1, none⟩) hne _).far (p := ⟨pb, ho * 4 + 2, none⟩) hne _).far (p := ⟨pb, ho * 4 + 3, none⟩) hne _).set 3 _
      have hMM : Mod [tb, pb] w (((((wr.setCell ⟨pb, ho * 4, none⟩ (.int .u8 0)).setCell ⟨pb, ho * 4 + 1, none⟩ (.int .u64 0)).setCell ⟨pb, ho * 4 + 2, none⟩ (.int .u64 0)).setCell ⟨pb, ho * 4 + 3, none⟩ (.bool false)).setCell ⟨tb, 3, none⟩ (.int .i64 l'.length)) :=
        ((((hD.mod.set (.inl (by simp)) _).set (.inl (by simp)) _).set (.inl (by simp)) _).set (.inl (by simp)) _).set (.inl (by simp)) _
      have HT := Hidden.mk hT
      have HM := Hidden.mk hMM
      have HP := Hidden.mk hperm
      have hroom := H.out.room
      have hsmall := H.out.small
      have HLN : Hidden (L'.length = L.length ∧ l.length = l'.length + 1 ∧ dropL l (k1, k2) = l' ∧ L'.length = 2 ^ b) := ⟨hL', hln, hl', hD.len⟩
      rw [hln] at hroom hsmall
      rw [← hL'] at hroom hsmall
      clear hc3 hinv hperm hkeys hT hMM hD heh HD hpi hL' hln hl'
      by_cases h8 : 8 < L'.length
      · have h8' : decide ((8 : Int) < (L'.length : Int)) = true := by simp; omega
        have hb4 : 4 ≤ b := by
          rcases Nat.lt_or_ge b 4 with hb | hb
          · have : b = 3 := by omega
            subst this
            have := HLN.out.2.2.2; omega
          · exact hb
        by_cases hs : 8 * l'.length < L'.length
        · have hs' : decide ((8 : Int) * (l'.length : Int) < (L'.length : Int)) = true := by simp; omega
          obtain ⟨b', rfl⟩ : ∃ q, b = q + 1 := ⟨b - 1, by omega⟩
          obtain ⟨N', hN'⟩ : ∃ q, q = 2 ^ b' := ⟨_, rfl⟩
          have hNN : L'.length = 2 * N' := by rw [HLN.out.2.2.2, Nat.pow_succ, hN']; omega
          have HNN : Hidden (N' = 2 ^ b' ∧ (ents (L'.set ho none)).length < N' ∧ (b' = 3 ∨ N' ≤ 8 * l'.length) ∧ 2 * l'.length ≤ N') := by
            refine ⟨hN', by rw [HP.out.length_eq]; omega, ?_, by omega⟩
            rcases hsmall with h | h
            · left; omega
            · rcases Nat.lt_or_ge b' 4 with hb | hb
              · left; omega
              · right
                have : 2 ^ 4 ≤ N' := by rw [hN']; exact Nat.pow_le_pow_right (by omega) hb
                omega
          have hdiv : (L'.length : Int) / 2 = (N' : Int) := by omega
          have HDV := Hidden.mk hdiv
          clear hdiv hN' hNN hroom hsmall
          go_wp2_with fail
          go_quiet (fail)
          go_wp2_with fail
          rw [HDV.out]
          refine (rehash_any tb mb pb (b' + 1) l'.length b' N' seed ((d : Int) + 1) _ _ (HT.out.mod ((Mod.refl [] _).drewN _) (by simp) (by simp)) (by omega) (by omega) HNN.out.1 HNN.out.2.1).mono ?_
          rintro e w5 ⟨rfl, pb', L5, ht5, hpe5, hm5, hpb5⟩
          have HR : Hidden (TabAt w5 tb mb [tb, pb'] b' ((d : Int) + 1) l' ∧ Mod [tb, pb] w w5 ∧ w.heap.size ≤ pb') := by
            refine ⟨⟨pb', seed, L5, rfl, ht5, hpe5.trans HP.out, ?_, ?_⟩, (HM.out.drewN _).trans hm5 (by simp), Nat.le_trans HM.out.size hpb5⟩
            · rw [ht5.len, ← HNN.out.1]; exact HNN.out.2.2.2
            · rw [ht5.len, ← HNN.out.1]; exact HNN.out.2.2.1
          clear ht5 hpe5 hm5 hpb5
          go_wp2_with fail
          go_ret
          rw [HLN.out.2.2.1]
          refine ⟨rfl, _, _, _, HR.out.1, HR.out.2.1, ?_, hpr.out.1, hpr.out.2⟩
          intro q hq; simp only [List.mem_cons, List.not_mem_nil, or_false] at hq ⊢
          rcases hq with rfl | rfl
          · exact .inl (.inl rfl)
          · exact .inr HR.out.2.2
        · have hs' : decide ((8 : Int) * (l'.length : Int) < (L'.length : Int)) = false := by simp; omega
          go_wp2_with fail
          go_quiet (fail)
          go_wp2_with fail
          go_ret
          rw [HLN.out.2.2.1]
          refine ⟨rfl, [tb, pb], b, (d : Int) + 1, ⟨pb, seed, _, rfl, HT.out.mod ((Mod.refl [] _).drewN _) (by simp) (by simp), HP.out, by rw [List.length_set]; omega, by rw [List.length_set]; right; omega⟩, HM.out.drewN _, fun q hq => .inl hq, hpr.out.1, hpr.out.2⟩
      · have h8' : decide ((8 : Int) < (L'.length : Int)) = false := by simp; omega
        have hb' : b = 3 := by
          rcases Nat.lt_or_ge b 4 with hb | hb
          · omega
          · have : 2 ^ 4 ≤ L'.length := by rw [HLN.out.2.2.2]; exact Nat.pow_le_pow_right (by omega) hb
            omega
        have HB3 := Hidden.mk hb'
        clear hb'
        go_wp2_with fail
        go_quiet (fail)
        go_wp2_with fail
        go_ret
        rw [HLN.out.2.2.1]
        refine ⟨rfl, [tb, pb], b, (d : Int) + 1, ⟨pb, seed, _, rfl, HT.out.mod ((Mod.refl [] _).drewN _) (by simp) (by simp), HP.out, by rw [List.length_set]; omega, .inl HB3.out⟩, HM.out.drewN _, fun q hq => .inl hq, hpr.out.1, hpr.out.2⟩
set_option maxRecDepth 100000 in
set_option maxHeartbeats 1000000 in
theorem hash_drop_no {w : World} {tb mb pb b : Nat} {seed pr : Int} {L : HT} {l : List (HK × Int)} (k : HK) (hk : KeyOK k) (h : TabS w tb mb pb b seed pr L l) (hl : lk l k = none) :
    Calls Try.prog 39 #[.pointer (some ⟨tb, 0, none⟩), keyV k] w fun e w' => e = .returned (.bool false) ∧
      ∃ pr', TabAt w' tb mb [tb, pb] b pr' l ∧ Mod [tb, pb] w w' ∧ 1 ≤ pr' ∧ pr' ≤ ((2 ^ b : Nat) : Int) := by
  obtain ⟨z, hz, hfree⟩ := h.free
  have hlt := h.tab.blk.lt
  have hKb : Blk (w.alloc (.cells #[.int .u8 k.1, .int .u64 k.2] 64)) w.heap.size 64 #[.int .u8 k.1, .int .u64 k.2] := Blk.new _ _ _
  have hf := find_any tb mb pb b l.length seed pr L k (w.alloc (.cells #[.int .u8 k.1, .int .u64 k.2] 64)) (h.tab.mod ((Mod.refl [] w).alloc _) (by simp) (by simp)) hk hz hfree
  have H : Hidden (TabS w tb mb pb b seed pr L l ∧ lk l k = none) := ⟨h, hl⟩
  have hM : Mod [tb, pb] w (w.alloc (.cells #[.int .u8 k.1, .int .u64 k.2] 64)) := (Mod.refl _ w).alloc _
  clear h hz hfree hl
  obtain ⟨k1, k2⟩ := k
  unfold keyV at hf ⊢
  simp only at hKb hf hM
  go_enter Try.func39, Try.ntmps39
  go_wp2_with fail
  refine hf.mono ?_
  clear hf
  rintro e w2 ⟨d, hd, rfl, ht2, hmod3⟩
  have hst := stop_lk ht2.inv H.out.1.perm hd
  have hdl := hd.lt
  rcases hst with ⟨hp, hl⟩ | ⟨v', hp, hl⟩
  · have hpr : Hidden (1 ≤ (d : Int) + 1 ∧ (d : Int) + 1 ≤ ((2 ^ b : Nat) : Int)) := ⟨by omega, by rw [← ht2.len]; omega⟩
    have HR : Hidden (TabAt w2 tb mb [tb, pb] b ((d : Int) + 1) l ∧ Mod [tb, pb] w w2) := ⟨⟨pb, seed, L, rfl, ht2, H.out.1.perm, H.out.1.room, H.out.1.small⟩, hM.trans hmod3 (by simp)⟩
    rw [hp]
    simp only [Option.isSome_none]
    clear hp hl hd hmod3 hKb hM ht2
    go_wp2_with fail
    go_ret
    exact ⟨rfl, _, HR.out.1, HR.out.2, hpr.out.1, hpr.out.2⟩
  · rw [H.out.2] at hl; cases hl
theorem hash_drop {w : World} {tb mb b : Nat} {F : List Nat} {pr : Int} {l : List (HK × Int)} (k : HK) (hk : KeyOK k) (h : TabAt w tb mb F b pr l) :
    Calls Try.prog 39 #[.pointer (some ⟨tb, 0, none⟩), keyV k] w fun e w' => e = .returned (.bool (lk l k).isSome) ∧
      ∃ F' b' pr', TabAt w' tb mb F' b' pr' (dropL l k) ∧ Mod F w w' ∧ (∀ q ∈ F', q ∈ F ∨ w.heap.size ≤ q) ∧ 1 ≤ pr' ∧ pr' ≤ ((2 ^ b : Nat) : Int) := by
  have hnd := h.nodup
  obtain ⟨pb, seed, L, rfl, h⟩ := h
  cases hl : lk l k with
  | none =>
    refine (hash_drop_no k hk h hl).mono ?_
    rintro e w' ⟨rfl, pr', h1, h2, h3, h4⟩
    refine ⟨rfl, [tb, pb], b, pr', ?_, h2, fun q hq => .inl hq, h3, h4⟩
    have : dropL l k = l := filter_absent hl
    rw [this]; exact h1
  | some v => exact hash_drop_yes k v hk h hnd hl
end Go.Proofs.Ytnbanbfnabhjjaa
