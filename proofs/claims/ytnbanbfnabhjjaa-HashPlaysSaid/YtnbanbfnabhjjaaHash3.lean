/- The hash table: so many places (rehash). -/
import Derived.Test.YtnbanbfnabhjjaaHash2
namespace Go.Proofs.Ytnbanbfnabhjjaa
open Go.RowKit
set_option linter.unusedVariables false
set_option linter.unusedSimpArgs false

theorem free_exists {L : HT} (h : (ents L).length < L.length) : ∃ z, z < L.length ∧ pl L z = none := by
  induction L with
  | nil => simp at h
  | cons o L ih =>
    cases o with
    | none => exact ⟨0, by simp, rfl⟩
    | some e =>
      have : (ents L).length < L.length := by simpa [ents] using h
      obtain ⟨z, h1, h2⟩ := ih this
      exact ⟨z + 1, by simp; omega, by simpa [pl] using h2⟩
theorem ents_take_le (L : HT) (i : Nat) : (ents (L.take i)).length ≤ (ents L).length := by
  have : ents L = ents (L.take i) ++ ents (L.drop i) := by
    unfold ents; rw [← List.filterMap_append, List.take_append_drop]
  rw [this]; simp
theorem ents_take_succ (L : HT) {i : Nat} (h : i < L.length) : ents (L.take (i + 1)) = ents (L.take i) ++ (pl L i).toList := by
  have : L.take (i + 1) = L.take i ++ [pl L i] := by
    rw [List.take_add_one, pl_get h]; rfl
  rw [this]; unfold ents; rw [List.filterMap_append]; cases pl L i <;> simp
theorem madeCells_entry (n : Nat) : madeCells #[.int .u8 0, .int .u64 0, .int .u64 0, .bool false] (n * 4) = ((List.replicate n (none : Option (HK × Int))).flatMap encE).toArray := by
  apply Array.ext'
  apply List.ext_getElem?
  intro p
  have hlen := flat_len encE 4 encE_len (List.replicate n none)
  simp only [List.length_replicate] at hlen
  rcases Nat.lt_or_ge p (n * 4) with h | h
  · have h2 := flat_get encE 4 encE_len (List.replicate n none) (p / 4) (p % 4) (Nat.mod_lt _ (by omega))
    have hp : p / 4 * 4 + p % 4 = p := by omega
    rw [hp, List.getElem?_replicate, if_pos (by omega)] at h2
    rw [h2]
    have h3 : p % 4 < 4 := Nat.mod_lt _ (by omega)
    have hsz : (madeCells #[.int .u8 0, .int .u64 0, .int .u64 0, .bool false] (n * 4)).toList.length = n * 4 := by rw [Array.length_toList]; exact size_madeCells _ _
    rw [List.getElem?_eq_getElem (by rw [hsz]; exact h)]
    simp only [madeCells, Array.getElem_toList, Array.getElem_map, Array.getElem_range, Option.bind_some]
    have : p % 4 = 0 ∨ p % 4 = 1 ∨ p % 4 = 2 ∨ p % 4 = 3 := by omega
    rcases this with e | e | e | e <;> simp [encE, e]
  · rw [List.getElem?_eq_none (by rw [Array.length_toList]; simpa [size_madeCells] using h), List.getElem?_eq_none (by simpa [hlen] using h)]
theorem entry_info : (Try.prog.info? 123).map (fun i => (i.zero, i.size, i.bytes)) = some (some (.agg #[.int .u8 0, .int .u64 0, .int .u64 0, .bool false]), 4, 32) := by kernel_rfl
theorem make_entries (n : Nat) (hn : n ≤ 1099511627776) (W : World) : (Instr.makeSlice 110 (.int .i64 (n : Int)) (.int .i64 (n : Int))).run Try.prog W =
    .ok (.slice (some ⟨W.heap.size, 0, none⟩) n n) (W.alloc (.cells ((List.replicate n (none : Option (HK × Int))).flatMap encE).toArray 123)) := by
  obtain ⟨i, hi, hz, hsize, hby⟩ := info_parts entry_info
  have hr := run_make (P := Try.prog) W 110 123 i _ (by kernel_rfl) hi hz .i64 .i64 n n (by omega) (Int.le_refl _) (by rw [hby]; omega) (by omega)
  simp only [Int.toNat_natCast] at hr
  rw [hr, hsize]
  rw [show (Value.agg #[.int .u8 0, .int .u64 0, .int .u64 0, .bool false]).cells = #[.int .u8 0, .int .u64 0, .int .u64 0, .bool false] from rfl, madeCells_entry]
theorem toArray_set {β : Type} (l : List β) (i : Nat) (a : β) : l.toArray.setIfInBounds i a = (l.set i a).toArray := by simp
theorem places_set {w : World} {pb : Nat} {L : HT} (h : Blk w pb 123 (L.flatMap encE).toArray) {u : Nat} (hu : u < L.length) (o : Option (HK × Int)) {a b c d : Value} (ho : encE o = [a, b, c, d]) :
    Blk ((((w.setCell ⟨pb, u * 4, none⟩ a).setCell ⟨pb, u * 4 + 1, none⟩ b).setCell ⟨pb, u * 4 + 2, none⟩ c).setCell ⟨pb, u * 4 + 3, none⟩ d) pb 123 ((L.set u o).flatMap encE).toArray := by
  have h2 := (((h.set (u * 4) a).set (u * 4 + 1) b).set (u * 4 + 2) c).set (u * 4 + 3) d
  simp only [toArray_set] at h2
  have hl := flat_len encE 4 encE_len L
  have hb : (u + 1) * 4 ≤ L.length * 4 := Nat.mul_le_mul_right _ hu
  rw [set4_eq _ _ _ _ _ _ (by omega)] at h2
  rw [flat_put encE 4 encE_len _ _ hu, ho]
  exact h2

set_option maxRecDepth 100000 in
set_option maxHeartbeats 2000000 in
theorem rehash_any (tb mb pb b n b' N' : Nat) (seed pr : Int) (L : HT) (w : World) (h : TabIn w tb mb pb b seed L n pr) (hb3 : 3 ≤ b') (hb40 : b' ≤ 40) (hN' : N' = 2 ^ b') (hroom : (ents L).length < N') :
    Calls Try.prog 83 #[.pointer (some ⟨tb, 0, none⟩), .int .i64 N'] w fun e w' => e = .returned (.tuple #[]) ∧ ∃ pb' L', TabIn w' tb mb pb' b' seed L' n pr ∧ (ents L').Perm (ents L) ∧ Mod [tb] w w' ∧ w.heap.size ≤ pb' := by
  have hN := h.N2
  have hN2 : N' ≤ 1099511627776 := by rw [hN']; exact Nat.le_trans (Nat.pow_le_pow_right (by omega) hb40) (by decide)
  have hmk := make_entries N' hN2
  have hb0 := h.blk
  have hp0 := h.places
  have hlt := hb0.lt
  have hplt := hp0.lt
  have hne := h.ne
  have c1 : w.cell? ⟨tb, 1, none⟩ = some (.slice (some ⟨pb, 0, none⟩) L.length L.length) := hb0.cell 1
  have c4 : w.cell? ⟨tb, 4, none⟩ = some (.int .i64 pr) := hb0.cell 4
  have f1 := hb0.frozen 1
  have hH : Hidden (TabIn w tb mb pb b seed L n pr) := ⟨h⟩
  have hE : Hidden (HInv (homeF seed b') (List.replicate N' none : HT)) := ⟨HInv.empty (fun k => by rw [hN']; exact homeF_lt seed b' (by omega) k)⟩
  have hW : TabIn ((w.setCell ⟨tb, 1, none⟩ (.slice (some ⟨w.heap.size, 0, none⟩) N' N')).alloc (.cells ((List.replicate N' (none : Option (HK × Int))).flatMap encE).toArray 123)) tb mb w.heap.size b' seed (List.replicate N' none) n pr := by
    refine ⟨?_, Blk.new' (by simp [World.setCell]) _ _, by simpa using hN', hb3, hb40, hE.out, by rw [ents_empty]; simp⟩
    rw [List.length_replicate]; exact (hb0.set 1 _).alloc _
  have hP : Blk ((w.setCell ⟨tb, 1, none⟩ (.slice (some ⟨w.heap.size, 0, none⟩) N' N')).alloc (.cells ((List.replicate N' (none : Option (HK × Int))).flatMap encE).toArray 123)) pb 123 (L.flatMap encE).toArray := (hp0.far (p := ⟨tb, 1, none⟩) (Ne.symm hne) _).alloc _
  have hM : Mod [tb] w ((w.setCell ⟨tb, 1, none⟩ (.slice (some ⟨w.heap.size, 0, none⟩) N' N')).alloc (.cells ((List.replicate N' (none : Option (HK × Int))).flatMap encE).toArray 123)) := ((Mod.refl _ w).set (.inl (by simp)) _).alloc _
  have HN : Hidden (N' = 2 ^ b') := ⟨hN'⟩
  clear h hb0 hp0 hE hN'
  go_enter Try.func83, Try.ntmps83
  go_wp2_with fail
  go_loopw [25] (fun i wr => ∃ (j : Nat) (L' : HT) (q : Int), j ≤ L.length ∧ i = .int .i64 j ∧ TabIn wr tb mb w.heap.size b' seed L' n q ∧ L'.length = N' ∧ (ents L').Perm (ents (L.take j)) ∧
      Blk wr pb 123 (L.flatMap encE).toArray ∧ Mod [tb] w wr) (fun i _ => L.length - (intOf i).toNat)
  case atStart => exact ⟨0, _, pr, by omega, rfl, hW, by simp, by rw [ents_empty]; simp [ents], hP, hM⟩
  case round =>
    clear hW hP hM c1 c4 f1
    obtain ⟨j, L', q, hj, rfl, hW, hL', hperm, hP, hM⟩ := hrel
    have HL : Hidden (L'.length = N' ∧ (ents L').Perm (ents (L.take j))) := ⟨hL', hperm⟩
    have hle : (ents L').length ≤ (ents L).length := by rw [hperm.length_eq]; exact ents_take_le L j
    have hwlt := hW.blk.lt
    have hwlt2 := hW.places.lt
    have hne2 := hW.ne
    rcases Nat.lt_or_ge j L.length with hjl | hjl
    · have p0 := place_cell hP hjl 0 (by omega)
      have p1 := place_cell hP hjl 1 (by omega)
      have p2 := place_cell hP hjl 2 (by omega)
      have p3 := place_cell hP hjl 3 (by omega)
      have hts := ents_take_succ L hjl
      cases ho : pl L j with
      | none =>
        rw [ho] at p0 p1 p2 p3 hts
        simp only [encE, Nat.add_zero, List.getElem?_cons_zero, List.getElem?_cons_succ, Option.toList_none, List.append_nil] at p0 p1 p2 p3 hts
        have HT : Hidden (ents (L.take (j + 1)) = ents (L.take j)) := ⟨hts⟩
        clear hL' hperm hts ho
        have HW : Hidden (TabIn wr tb mb w.heap.size b' seed L' n q ∧ Blk wr pb 123 (L.flatMap encE).toArray ∧ Mod [tb] w wr) := ⟨hW, hP, hM⟩
        have hpb := hP.lt
        clear hW hP hM
        go_wp2_with fail
        go_roundw
        case rel => exact ⟨j + 1, L', q, by omega, by go_num, HW.out.1.mod ((Mod.refl [] wr).alloc _) (by simp) (by simp), HL.out.1, by rw [HT.out]; exact HL.out.2, HW.out.2.1.alloc _, HW.out.2.2.alloc _⟩
        case measure => simp [intOf]; omega
      | some e =>
        rw [ho] at p0 p1 p2 p3 hts
        simp only [encE, Nat.add_zero, List.getElem?_cons_zero, List.getElem?_cons_succ, Option.toList_some] at p0 p1 p2 p3 hts
        have hek := hH.out.keys e (mem_ents.2 ⟨j, ho⟩)
        obtain ⟨z, hz, hfree⟩ := free_exists (L := L') (by rw [hL']; omega)
        have hnew : ∀ u, pl L' u = none ∨ ∃ e', pl L' u = some e' ∧ e'.1 ≠ e.1 := by
          intro u
          cases hu : pl L' u with
          | none => exact .inl rfl
          | some e' =>
            right; refine ⟨e', rfl, fun hk => ?_⟩
            have hm : e' ∈ ents (L.take j) := hperm.mem_iff.1 (mem_ents.2 ⟨u, hu⟩)
            obtain ⟨p, hp⟩ := mem_ents.1 hm
            have hpj := pl_lt hp
            have hpL : pl L p = some e' := by
              unfold pl at hp ⊢; rw [List.getElem?_take] at hp; rw [List.length_take] at hpj
              rwa [if_pos (by omega)] at hp
            have := hH.out.inv.uniq p j e' e hpL ho hk
            rw [List.length_take] at hpj; omega
        have HT : Hidden (ents (L.take (j + 1)) = ents (L.take j) ++ [e] ∧ ∀ u, pl L' u = none ∨ ∃ e', pl L' u = some e' ∧ e'.1 ≠ e.1) := ⟨hts, hnew⟩
        obtain ⟨⟨e1, e2⟩, ev⟩ := e
        have hX : Blk (wr.alloc (.cells #[.int .u8 e1, .int .u64 e2, .int .u64 ev, .bool true] 123)) wr.heap.size 123 #[.int .u8 e1, .int .u64 e2, .int .u64 ev, .bool true] := Blk.new _ _ _
        have hWx : TabIn (wr.alloc (.cells #[.int .u8 e1, .int .u64 e2, .int .u64 ev, .bool true] 123)) tb mb w.heap.size b' seed L' n q := hW.mod ((Mod.refl [] wr).alloc _) (by simp) (by simp)
        have hPx : Blk (wr.alloc (.cells #[.int .u8 e1, .int .u64 e2, .int .u64 ev, .bool true] 123)) pb 123 (L.flatMap encE).toArray := hP.alloc _
        have hMx : Mod [tb] w (wr.alloc (.cells #[.int .u8 e1, .int .u64 e2, .int .u64 ev, .bool true] 123)) := hM.alloc _
        have hpb := hP.lt
        have hf := find_any tb mb w.heap.size b' n seed q L' (e1, e2) _ hWx hek hz hfree
        unfold keyV at hf
        have hxt : wr.heap.size ≠ tb := by omega
        clear hL' hperm hts ho hnew hz hfree hW hP hM hWx
        go_wp2_with fail
        refine hf.mono ?_
        clear hf
        rintro e w2 ⟨d, hd, rfl, hW2, hm2⟩
        have hX2 := hX.mod hm2 (by simpa using hxt)
        have hP2 := hPx.mod hm2 (by simp; omega)
        have hM2 := hMx.trans hm2 (by simp)
        have hu := up_spec (hW2.inv.home (e1, e2)) hd.lt
        have hun : pl L' (up L'.length (homeF seed b' (e1, e2)) d) = none := by
          rcases HT.out.2 (up L'.length (homeF seed b' (e1, e2)) d) with h | ⟨e', h, hne'⟩
          · exact h
          · exact absurd (hd.at_ _ h) hne'
        have hput := hd.put hW2.inv ev
        have hpe := ents_set hu.1 (some ((e1, e2), ev))
        rw [hun] at hpe ⊢
        simp only [Option.isSome_none, Option.toList_none, Option.toList_some, List.nil_append] at hpe ⊢
        generalize hU : up L'.length (homeF seed b' (e1, e2)) d = u at *
        have q0 := place_cell hW2.places hu.1 0 (by omega)
        have q1 := place_cell hW2.places hu.1 1 (by omega)
        have q2 := place_cell hW2.places hu.1 2 (by omega)
        have q3 := place_cell hW2.places hu.1 3 (by omega)
        rw [hun] at q0 q1 q2 q3
        simp only [encE, Nat.add_zero, List.getElem?_cons_zero, List.getElem?_cons_succ] at q0 q1 q2 q3
        have g0 := hW2.places.frozen (u * 4)
        have g1 := hW2.places.frozen (u * 4 + 1)
        have g2 := hW2.places.frozen (u * 4 + 2)
        have g3 := hW2.places.frozen (u * 4 + 3)
        have hc1 : w2.cell? ⟨tb, 1, none⟩ = some (.slice (some ⟨w.heap.size, 0, none⟩) L'.length L'.length) := hW2.blk.cell 1
        have x0 : w2.cell? ⟨wr.heap.size, 0, none⟩ = some (.int .u8 e1) := hX2.cell 0
        have x1 : w2.cell? ⟨wr.heap.size, 1, none⟩ = some (.int .u64 e2) := hX2.cell 1
        have x2 : w2.cell? ⟨wr.heap.size, 2, none⟩ = some (.int .u64 ev) := hX2.cell 2
        have x3 : w2.cell? ⟨wr.heap.size, 3, none⟩ = some (.bool true) := hX2.cell 3
        have hne3 := hW2.ne
        have hul := hu.1
        have hL2 := hW2.N2
        have HR : Hidden (TabIn ((((w2.setCell ⟨w.heap.size, u * 4, none⟩ (.int .u8 e1)).setCell ⟨w.heap.size, u * 4 + 1, none⟩ (.int .u64 e2)).setCell ⟨w.heap.size, u * 4 + 2, none⟩ (.int .u64 ev)).setCell ⟨w.heap.size, u * 4 + 3, none⟩ (.bool true)) tb mb w.heap.size b' seed (L'.set u (some ((e1, e2), ev))) n ((d : Int) + 1) ∧
            Blk ((((w2.setCell ⟨w.heap.size, u * 4, none⟩ (.int .u8 e1)).setCell ⟨w.heap.size, u * 4 + 1, none⟩ (.int .u64 e2)).setCell ⟨w.heap.size, u * 4 + 2, none⟩ (.int .u64 ev)).setCell ⟨w.heap.size, u * 4 + 3, none⟩ (.bool true)) pb 123 (L.flatMap encE).toArray ∧
            Mod [tb] w ((((w2.setCell ⟨w.heap.size, u * 4, none⟩ (.int .u8 e1)).setCell ⟨w.heap.size, u * 4 + 1, none⟩ (.int .u64 e2)).setCell ⟨w.heap.size, u * 4 + 2, none⟩ (.int .u64 ev)).setCell ⟨w.heap.size, u * 4 + 3, none⟩ (.bool true)) ∧
            (ents (L'.set u (some ((e1, e2), ev)))).Perm (ents (L.take (j + 1)))) := by
          have hpp : (ents (L'.set u (some ((e1, e2), ev)))).Perm (ents (L.take (j + 1))) := by
            rw [HT.out.1]
            refine hpe.symm.trans ?_
            refine (List.Perm.cons _ HL.out.2).trans ?_
            exact (List.perm_append_comm (l₁ := [((e1, e2), ev)]) (l₂ := ents (L.take j)))
          refine ⟨⟨?_, places_set hW2.places hu.1 (some ((e1, e2), ev)) rfl, by rw [List.length_set]; exact hW2.len, hb3, hb40, hput, ?_⟩, ?_, ?_, hpp⟩
          · rw [List.length_set]
            exact (((hW2.blk.far (p := ⟨w.heap.size, u * 4, none⟩) hne3 _).far (p := ⟨w.heap.size, u * 4 + 1, none⟩) hne3 _).far (p := ⟨w.heap.size, u * 4 + 2, none⟩) hne3 _).far (p := ⟨w.heap.size, u * 4 + 3, none⟩) hne3 _
          · intro e' he'
            have := hpe.symm.mem_iff.1 he'
            rcases List.mem_cons.1 this with rfl | hm
            · exact hek
            · exact hW2.keys e' hm
          · have hpn : pb ≠ w.heap.size := by omega
            exact (((hP2.far (p := ⟨w.heap.size, u * 4, none⟩) hpn _).far (p := ⟨w.heap.size, u * 4 + 1, none⟩) hpn _).far (p := ⟨w.heap.size, u * 4 + 2, none⟩) hpn _).far (p := ⟨w.heap.size, u * 4 + 3, none⟩) hpn _
          · exact (((hM2.set (.inr (by simp)) _).set (.inr (by simp)) _).set (.inr (by simp)) _).set (.inr (by simp)) _
        have HLL : Hidden (L'.length = N') := ⟨HL.out.1⟩
        clear hX hPx hMx hW2 hm2 hX2 hP2 hM2 hd hun hput hpe hU hu HT HL
        go_wp2_with fail
        refine wp_tail 7 (by kernel_rfl) (by kernel_rfl) ?_
        simp only [List.take_succ_cons, List.take_zero, List.drop_succ_cons, List.drop_zero]
        repeat still_step
        refine wpStill_nil ?_
        go_wp2_with fail
        go_roundw
        case rel => exact ⟨j + 1, _, _, by omega, by go_num, HR.out.1.mod (Mod.refl [] _).drew (by simp) (by simp), by rw [List.length_set]; exact HLL.out, HR.out.2.2.2, HR.out.2.1, HR.out.2.2.1.drew⟩
        case measure => simp [intOf]; omega
    · obtain rfl : j = L.length := by omega
      have hc4 : wr.cell? ⟨tb, 4, none⟩ = some (.int .i64 q) := hW.blk.cell 4
      have hf4 := hW.blk.frozen 4
      have HR : Hidden (TabIn (wr.setCell ⟨tb, 4, none⟩ (.int .i64 pr)) tb mb w.heap.size b' seed L' n pr ∧ (ents L').Perm (ents L) ∧ Mod [tb] w (wr.setCell ⟨tb, 4, none⟩ (.int .i64 pr))) :=
        ⟨⟨hW.blk.set 4 _, hW.places.far (p := ⟨tb, 4, none⟩) (Ne.symm hne2) _, hW.len, hb3, hb40, hW.inv, hW.keys⟩, by rw [List.take_length] at hperm; exact hperm, hM.set (.inl (by simp)) _⟩
      clear hW hL' hperm hP hM HL
      go_wp2_with fail
      go_end0
      exact ⟨rfl, w.heap.size, L', HR.out.1, HR.out.2.1, HR.out.2.2, Nat.le_refl _⟩
end Go.Proofs.Ytnbanbfnabhjjaa
