/- Texts joined: Hash3, Hash4, Hash5, Hash6. -/
import Derived.Test.YtfioekkegihkoaaGHash
set_option linter.unusedVariables false
set_option linter.unusedSimpArgs false
/- The hash table: so many places (rehash). -/
namespace Go.Proofs.Ytfioekkegihkoaa
open Go.RowKit
set_option linter.unusedVariables false
set_option linter.unusedSimpArgs false

theorem free_exists {L : HT} (h : (ents L).length < L.length) : ∃ z, z < L.length ∧ pl L z = none := by
  induction L with
  | nil => simp at h
  | cons o L ih =>
    cases o with
    | none => exact ⟨0, by simp, rfl⟩
    | some e =>
      have : (ents L).length < L.length := by simpa [ents] using h
      obtain ⟨z, h1, h2⟩ := ih this
      exact ⟨z + 1, by simp; omega, by simpa [pl] using h2⟩
theorem ents_take_le (L : HT) (i : Nat) : (ents (L.take i)).length ≤ (ents L).length := by
  have : ents L = ents (L.take i) ++ ents (L.drop i) := by
    unfold ents; rw [← List.filterMap_append, List.take_append_drop]
  rw [this]; simp
theorem ents_take_succ (L : HT) {i : Nat} (h : i < L.length) : ents (L.take (i + 1)) = ents (L.take i) ++ (pl L i).toList := by
  have : L.take (i + 1) = L.take i ++ [pl L i] := by
    rw [List.take_add_one, pl_get h]; rfl
  rw [this]; unfold ents; rw [List.filterMap_append]; cases pl L i <;> simp
theorem madeCells_entry (n : Nat) : madeCells #[.int .u8 0, .int .u64 0, .int .u64 0, .bool false] (n * 4) = ((List.replicate n (none : Option (HK × Int))).flatMap encE).toArray := by
  apply Array.ext'
  apply List.ext_getElem?
  intro p
  have hlen := flat_len encE 4 encE_len (List.replicate n none)
  simp only [List.length_replicate] at hlen
  rcases Nat.lt_or_ge p (n * 4) with h | h
  · have h2 := flat_get encE 4 encE_len (List.replicate n none) (p / 4) (p % 4) (Nat.mod_lt _ (by omega))
    have hp : p / 4 * 4 + p % 4 = p := by omega
    rw [hp, List.getElem?_replicate, if_pos (by omega)] at h2
    rw [h2]
    have h3 : p % 4 < 4 := Nat.mod_lt _ (by omega)
    have hsz : (madeCells #[.int .u8 0, .int .u64 0, .int .u64 0, .bool false] (n * 4)).toList.length = n * 4 := by rw [Array.length_toList]; exact size_madeCells _ _
    rw [List.getElem?_eq_getElem (by rw [hsz]; exact h)]
    simp only [madeCells, Array.getElem_toList, Array.getElem_map, Array.getElem_range, Option.bind_some]
    have : p % 4 = 0 ∨ p % 4 = 1 ∨ p % 4 = 2 ∨ p % 4 = 3 := by omega
    rcases this with e | e | e | e <;> simp [encE, e]
  · rw [List.getElem?_eq_none (by rw [Array.length_toList]; simpa [size_madeCells] using h), List.getElem?_eq_none (by simpa [hlen] using h)]
theorem entry_info : (Try.prog.info? 143).map (fun i => (i.zero, i.size, i.bytes)) = some (some (.agg #[.int .u8 0, .int .u64 0, .int .u64 0, .bool false]), 4, 32) := by kernel_rfl
theorem make_entries (n : Nat) (hn : n ≤ 1099511627776) (W : World) : (Instr.makeSlice 128 (.int .i64 (n : Int)) (.int .i64 (n : Int))).run Try.prog W =
    .ok (.slice (some ⟨W.heap.size, 0, none⟩) n n) (W.alloc (.cells ((List.replicate n (none : Option (HK × Int))).flatMap encE).toArray 143)) := by
  obtain ⟨i, hi, hz, hsize, hby⟩ := info_parts entry_info
  have hr := run_make (P := Try.prog) W 128 143 i _ (by kernel_rfl) hi hz .i64 .i64 n n (by omega) (Int.le_refl _) (by rw [hby]; omega) (by omega)
  simp only [Int.toNat_natCast] at hr
  rw [hr, hsize]
  rw [show (Value.agg #[.int .u8 0, .int .u64 0, .int .u64 0, .bool false]).cells = #[.int .u8 0, .int .u64 0, .int .u64 0, .bool false] from rfl, madeCells_entry]
theorem toArray_set {β : Type} (l : List β) (i : Nat) (a : β) : l.toArray.setIfInBounds i a = (l.set i a).toArray := by simp
theorem places_set {w : World} {pb : Nat} {L : HT} (h : Blk w pb 143 (L.flatMap encE).toArray) {u : Nat} (hu : u < L.length) (o : Option (HK × Int)) {a b c d : Value} (ho : encE o = [a, b, c, d]) :
    Blk ((((w.setCell ⟨pb, u * 4, none⟩ a).setCell ⟨pb, u * 4 + 1, none⟩ b).setCell ⟨pb, u * 4 + 2, none⟩ c).setCell ⟨pb, u * 4 + 3, none⟩ d) pb 143 ((L.set u o).flatMap encE).toArray := by
  have h2 := (((h.set (u * 4) a).set (u * 4 + 1) b).set (u * 4 + 2) c).set (u * 4 + 3) d
  simp only [toArray_set] at h2
  have hl := flat_len encE 4 encE_len L
  have hb : (u + 1) * 4 ≤ L.length * 4 := Nat.mul_le_mul_right _ hu
  rw [set4_eq _ _ _ _ _ _ (by omega)] at h2
  rw [flat_put encE 4 encE_len _ _ hu, ho]
  exact h2

set_option maxRecDepth 100000 in
set_option maxHeartbeats 2000000 in
theorem rehash_any (tb mb pb b n b' N' : Nat) (seed pr : Int) (L : HT) (w : World) (h : TabIn w tb mb pb b seed L n pr) (hb3 : 3 ≤ b') (hb40 : b' ≤ 40) (hN' : N' = 2 ^ b') (hroom : (ents L).length < N') :
    Calls Try.prog 114 #[.pointer (some ⟨tb, 0, none⟩), .int .i64 N'] w fun e w' => e = .returned (.tuple #[]) ∧ ∃ pb' L', TabIn w' tb mb pb' b' seed L' n pr ∧ (ents L').Perm (ents L) ∧ Mod [tb] w w' ∧ w.heap.size ≤ pb' := by
  have hN := h.N2
  have hN2 : N' ≤ 1099511627776 := by rw [hN']; exact Nat.le_trans (Nat.pow_le_pow_right (by omega) hb40) (by decide)
  have hmk := make_entries N' hN2
  have hb0 := h.blk
  have hp0 := h.places
  have hlt := hb0.lt
  have hplt := hp0.lt
  have hne := h.ne
  have c1 : w.cell? ⟨tb, 1, none⟩ = some (.slice (some ⟨pb, 0, none⟩) L.length L.length) := hb0.cell 1
  have c4 : w.cell? ⟨tb, 4, none⟩ = some (.int .i64 pr) := hb0.cell 4
  have f1 := hb0.frozen 1
  have hH : Hidden (TabIn w tb mb pb b seed L n pr) := ⟨h⟩
  have hE : Hidden (HInv (homeF seed b') (List.replicate N' none : HT)) := ⟨HInv.empty (fun k => by rw [hN']; exact homeF_lt seed b' (by omega) k)⟩
  have hW : TabIn ((w.setCell ⟨tb, 1, none⟩ (.slice (some ⟨w.heap.size, 0, none⟩) N' N')).alloc (.cells ((List.replicate N' (none : Option (HK × Int))).flatMap encE).toArray 143)) tb mb w.heap.size b' seed (List.replicate N' none) n pr := by
    refine ⟨?_, Blk.new' (by simp [World.setCell]) _ _, by simpa using hN', hb3, hb40, hE.out, by rw [ents_empty]; simp⟩
    rw [List.length_replicate]; exact (hb0.set 1 _).alloc _
  have hP : Blk ((w.setCell ⟨tb, 1, none⟩ (.slice (some ⟨w.heap.size, 0, none⟩) N' N')).alloc (.cells ((List.replicate N' (none : Option (HK × Int))).flatMap encE).toArray 143)) pb 143 (L.flatMap encE).toArray := (hp0.far (p := ⟨tb, 1, none⟩) (Ne.symm hne) _).alloc _
  have hM : Mod [tb] w ((w.setCell ⟨tb, 1, none⟩ (.slice (some ⟨w.heap.size, 0, none⟩) N' N')).alloc (.cells ((List.replicate N' (none : Option (HK × Int))).flatMap encE).toArray 143)) := ((Mod.refl _ w).set (.inl (by simp)) _).alloc _
  have HN : Hidden (N' = 2 ^ b') := ⟨hN'⟩
  clear h hb0 hp0 hE hN'
  go_enter Try.func114, Try.ntmps114
  go_wp2_with fail
  go_loopw [25] (fun i wr => ∃ (j : Nat) (L' : HT) (q : Int), j ≤ L.length ∧ i = .int .i64 j ∧ TabIn wr tb mb w.heap.size b' seed L' n q ∧ L'.length = N' ∧ (ents L').Perm (ents (L.take j)) ∧
      Blk wr pb 143 (L.flatMap encE).toArray ∧ Mod [tb] w wr) (fun i _ => L.length - (intOf i).toNat)
  case atStart => exact ⟨0, _, pr, by omega, rfl, hW, by simp, by rw [ents_empty]; simp [ents], hP, hM⟩
  case round =>
    clear hW hP hM c1 c4 f1
    obtain ⟨j, L', q, hj, rfl, hW, hL', hperm, hP, hM⟩ := hrel
    have HL : Hidden (L'.length = N' ∧ (ents L').Perm (ents (L.take j))) := ⟨hL', hperm⟩
    have hle : (ents L').length ≤ (ents L).length := by rw [hperm.length_eq]; exact ents_take_le L j
    have hwlt := hW.blk.lt
    have hwlt2 := hW.places.lt
    have hne2 := hW.ne
    rcases Nat.lt_or_ge j L.length with hjl | hjl
    · have p0 := place_cell hP hjl 0 (by omega)
      have p1 := place_cell hP hjl 1 (by omega)
      have p2 := place_cell hP hjl 2 (by omega)
      have p3 := place_cell hP hjl 3 (by omega)
      have hts := ents_take_succ L hjl
      cases ho : pl L j with
      | none =>
        rw [ho] at p0 p1 p2 p3 hts
        simp only [encE, Nat.add_zero, List.getElem?_cons_zero, List.getElem?_cons_succ, Option.toList_none, List.append_nil] at p0 p1 p2 p3 hts
        have HT : Hidden (ents (L.take (j + 1)) = ents (L.take j)) := ⟨hts⟩
        clear hL' hperm hts ho
        have HW : Hidden (TabIn wr tb mb w.heap.size b' seed L' n q ∧ Blk wr pb 143 (L.flatMap encE).toArray ∧ Mod [tb] w wr) := ⟨hW, hP, hM⟩
        have hpb := hP.lt
        clear hW hP hM
        go_wp2_with fail
        go_roundw
        case rel => exact ⟨j + 1, L', q, by omega, by go_num, HW.out.1.mod ((Mod.refl [] wr).alloc _) (by simp) (by simp), HL.out.1, by rw [HT.out]; exact HL.out.2, HW.out.2.1.alloc _, HW.out.2.2.alloc _⟩
        case measure => simp [intOf]; omega
      | some e =>
        rw [ho] at p0 p1 p2 p3 hts
        simp only [encE, Nat.add_zero, List.getElem?_cons_zero, List.getElem?_cons_succ, Option.toList_some] at p0 p1 p2 p3 hts
        have hek := hH.out.keys e (mem_ents.2 ⟨j, ho⟩)
        obtain ⟨z, hz, hfree⟩ := free_exists (L := L') (by rw [hL']; omega)
        have hnew : ∀ u, pl L' u = none ∨ ∃ e', pl L' u = some e' ∧ e'.1 ≠ e.1 := by
          intro u
          cases hu : pl L' u with
          | none => exact .inl rfl
          | some e' =>
            right; refine ⟨e', rfl, fun hk => ?_⟩
            have hm : e' ∈ ents (L.take j) := hperm.mem_iff.1 (mem_ents.2 ⟨u, hu⟩)
            obtain ⟨p, hp⟩ := mem_ents.1 hm
            have hpj := pl_lt hp
            have hpL : pl L p = some e' := by
              unfold pl at hp ⊢; rw [List.getElem?_take] at hp; rw [List.length_take] at hpj
              rwa [if_pos (by omega)] at hp
            have := hH.out.inv.uniq p j e' e hpL ho hk
            rw [List.length_take] at hpj; omega
        have HT : Hidden (ents (L.take (j + 1)) = ents (L.take j) ++ [e] ∧ ∀ u, pl L' u = none ∨ ∃ e', pl L' u = some e' ∧ e'.1 ≠ e.1) := ⟨hts, hnew⟩
        obtain ⟨⟨e1, e2⟩, ev⟩ := e
        have hX : Blk (wr.alloc (.cells #[.int .u8 e1, .int .u64 e2, .int .u64 ev, .bool true] 143)) wr.heap.size 143 #[.int .u8 e1, .int .u64 e2, .int .u64 ev, .bool true] := Blk.new _ _ _
        have hWx : TabIn (wr.alloc (.cells #[.int .u8 e1, .int .u64 e2, .int .u64 ev, .bool true] 143)) tb mb w.heap.size b' seed L' n q := hW.mod ((Mod.refl [] wr).alloc _) (by simp) (by simp)
        have hPx : Blk (wr.alloc (.cells #[.int .u8 e1, .int .u64 e2, .int .u64 ev, .bool true] 143)) pb 143 (L.flatMap encE).toArray := hP.alloc _
        have hMx : Mod [tb] w (wr.alloc (.cells #[.int .u8 e1, .int .u64 e2, .int .u64 ev, .bool true] 143)) := hM.alloc _
        have hpb := hP.lt
        have hf := find_any tb mb w.heap.size b' n seed q L' (e1, e2) _ hWx hek hz hfree
        unfold keyV at hf
        have hxt : wr.heap.size ≠ tb := by omega
        clear hL' hperm hts ho hnew hz hfree hW hP hM hWx
        go_wp2_with fail
        refine hf.mono ?_
        clear hf
        rintro e w2 ⟨d, hd, rfl, hW2, hm2⟩
        have hX2 := hX.mod hm2 (by simpa using hxt)
        have hP2 := hPx.mod hm2 (by simp; omega)
        have hM2 := hMx.trans hm2 (by simp)
        have hu := up_spec (hW2.inv.home (e1, e2)) hd.lt
        have hun : pl L' (up L'.length (homeF seed b' (e1, e2)) d) = none := by
          rcases HT.out.2 (up L'.length (homeF seed b' (e1, e2)) d) with h | ⟨e', h, hne'⟩
          · exact h
          · exact absurd (hd.at_ _ h) hne'
        have hput := hd.put hW2.inv ev
        have hpe := ents_set hu.1 (some ((e1, e2), ev))
        rw [hun] at hpe ⊢
        simp only [Option.isSome_none, Option.toList_none, Option.toList_some, List.nil_append] at hpe ⊢
        generalize hU : up L'.length (homeF seed b' (e1, e2)) d = u at *
        have q0 := place_cell hW2.places hu.1 0 (by omega)
        have q1 := place_cell hW2.places hu.1 1 (by omega)
        have q2 := place_cell hW2.places hu.1 2 (by omega)
        have q3 := place_cell hW2.places hu.1 3 (by omega)
        rw [hun] at q0 q1 q2 q3
        simp only [encE, Nat.add_zero, List.getElem?_cons_zero, List.getElem?_cons_succ] at q0 q1 q2 q3
        have g0 := hW2.places.frozen (u * 4)
        have g1 := hW2.places.frozen (u * 4 + 1)
        have g2 := hW2.places.frozen (u * 4 + 2)
        have g3 := hW2.places.frozen (u * 4 + 3)
        have hc1 : w2.cell? ⟨tb, 1, none⟩ = some (.slice (some ⟨w.heap.size, 0, none⟩) L'.length L'.length) := hW2.blk.cell 1
        have x0 : w2.cell? ⟨wr.heap.size, 0, none⟩ = some (.int .u8 e1) := hX2.cell 0
        have x1 : w2.cell? ⟨wr.heap.size, 1, none⟩ = some (.int .u64 e2) := hX2.cell 1
        have x2 : w2.cell? ⟨wr.heap.size, 2, none⟩ = some (.int .u64 ev) := hX2.cell 2
        have x3 : w2.cell? ⟨wr.heap.size, 3, none⟩ = some (.bool true) := hX2.cell 3
        have hne3 := hW2.ne
        have hul := hu.1
        have hL2 := hW2.N2
        have HR : Hidden (TabIn ((((w2.setCell ⟨w.heap.size, u * 4, none⟩ (.int .u8 e1)).setCell ⟨w.heap.size, u * 4 + 1, none⟩ (.int .u64 e2)).setCell ⟨w.heap.size, u * 4 + 2, none⟩ (.int .u64 ev)).setCell ⟨w.heap.size, u * 4 + 3, none⟩ (.bool true)) tb mb w.heap.size b' seed (L'.set u (some ((e1, e2), ev))) n ((d : Int) + 1) ∧
            Blk ((((w2.setCell ⟨w.heap.size, u * 4, none⟩ (.int .u8 e1)).setCell ⟨w.heap.size, u * 4 + 1, none⟩ (.int .u64 e2)).setCell ⟨w.heap.size, u * 4 + 2, none⟩ (.int .u64 ev)).setCell ⟨w.heap.size, u * 4 + 3, none⟩ (.bool true)) pb 143 (L.flatMap encE).toArray ∧
            Mod [tb] w ((((w2.setCell ⟨w.heap.size, u * 4, none⟩ (.int .u8 e1)).setCell ⟨w.heap.size, u * 4 + 1, none⟩ (.int .u64 e2)).setCell ⟨w.heap.size, u * 4 + 2, none⟩ (.int .u64 ev)).setCell ⟨w.heap.size, u * 4 + 3, none⟩ (.bool true)) ∧
            (ents (L'.set u (some ((e1, e2), ev)))).Perm (ents (L.take (j + 1)))) := by
          have hpp : (ents (L'.set u (some ((e1, e2), ev)))).Perm (ents (L.take (j + 1))) := by
            rw [HT.out.1]
            refine hpe.symm.trans ?_
            refine (List.Perm.cons _ HL.out.2).trans ?_
            exact (List.perm_append_comm (l₁ := [((e1, e2), ev)]) (l₂ := ents (L.take j)))
          refine ⟨⟨?_, places_set hW2.places hu.1 (some ((e1, e2), ev)) rfl, by rw [List.length_set]; exact hW2.len, hb3, hb40, hput, ?_⟩, ?_, ?_, hpp⟩
          · rw [List.length_set]
            exact (((hW2.blk.far (p := ⟨w.heap.size, u * 4, none⟩) hne3 _).far (p := ⟨w.heap.size, u * 4 + 1, none⟩) hne3 _).far (p := ⟨w.heap.size, u * 4 + 2, none⟩) hne3 _).far (p := ⟨w.heap.size, u * 4 + 3, none⟩) hne3 _
          · intro e' he'
            have := hpe.symm.mem_iff.1 he'
            rcases List.mem_cons.1 this with rfl | hm
            · exact hek
            · exact hW2.keys e' hm
          · have hpn : pb ≠ w.heap.size := by omega
            exact (((hP2.far (p := ⟨w.heap.size, u * 4, none⟩) hpn _).far (p := ⟨w.heap.size, u * 4 + 1, none⟩) hpn _).far (p := ⟨w.heap.size, u * 4 + 2, none⟩) hpn _).far (p := ⟨w.heap.size, u * 4 + 3, none⟩) hpn _
          · exact (((hM2.set (.inr (by simp)) _).set (.inr (by simp)) _).set (.inr (by simp)) _).set (.inr (by simp)) _
        have HLL : Hidden (L'.length = N') := ⟨HL.out.1⟩
        clear hX hPx hMx hW2 hm2 hX2 hP2 hM2 hd hun hput hpe hU hu HT HL
        go_wp2_with fail
        refine wp_tail 7 (by kernel_rfl) (by kernel_rfl) ?_
        simp only [List.take_succ_cons, List.take_zero, List.drop_succ_cons, List.drop_zero]
        repeat still_step
        refine wpStill_nil ?_
        go_wp2_with fail
        go_roundw
        case rel => exact ⟨j + 1, _, _, by omega, by go_num, HR.out.1.mod (Mod.refl [] _).drew (by simp) (by simp), by rw [List.length_set]; exact HLL.out, HR.out.2.2.2, HR.out.2.1, HR.out.2.2.1.drew⟩
        case measure => simp [intOf]; omega
    · obtain rfl : j = L.length := by omega
      have hc4 : wr.cell? ⟨tb, 4, none⟩ = some (.int .i64 q) := hW.blk.cell 4
      have hf4 := hW.blk.frozen 4
      have HR : Hidden (TabIn (wr.setCell ⟨tb, 4, none⟩ (.int .i64 pr)) tb mb w.heap.size b' seed L' n pr ∧ (ents L').Perm (ents L) ∧ Mod [tb] w (wr.setCell ⟨tb, 4, none⟩ (.int .i64 pr))) :=
        ⟨⟨hW.blk.set 4 _, hW.places.far (p := ⟨tb, 4, none⟩) (Ne.symm hne2) _, hW.len, hb3, hb40, hW.inv, hW.keys⟩, by rw [List.take_length] at hperm; exact hperm, hM.set (.inl (by simp)) _⟩
      clear hW hL' hperm hP hM HL
      go_wp2_with fail
      go_end0
      exact ⟨rfl, w.heap.size, L', HR.out.1, HR.out.2.1, HR.out.2.2, Nat.le_refl _⟩
end Go.Proofs.Ytfioekkegihkoaa

/- The hash table behind one word: a list of entries, each key once; New, Get, Len, Size, Probes, Clear. -/
namespace Go.Proofs.Ytfioekkegihkoaa
open Go.RowKit
set_option linter.unusedVariables false
set_option linter.unusedSimpArgs false

/-- The value of a key in a list of entries. -/
def lk (l : List (HK × Int)) (k : HK) : Option Int := (l.find? (fun e => decide (e.1 = k))).map (·.2)
def putL (l : List (HK × Int)) (k : HK) (v : Int) : List (HK × Int) := (k, v) :: l.filter (fun e => decide (e.1 ≠ k))
def dropL (l : List (HK × Int)) (k : HK) : List (HK × Int) := l.filter (fun e => decide (e.1 ≠ k))
/-- The table at tb with its places at pb: its entries are those of l, in some order. -/
structure TabS (w : World) (tb mb pb b : Nat) (seed pr : Int) (L : HT) (l : List (HK × Int)) : Prop where
  tab : TabIn w tb mb pb b seed L l.length pr
  perm : (ents L).Perm l
  room : 2 * l.length ≤ L.length
  small : b = 3 ∨ L.length ≤ 8 * l.length
def TabAt (w : World) (tb mb : Nat) (F : List Nat) (b : Nat) (pr : Int) (l : List (HK × Int)) : Prop := ∃ pb seed L, F = [tb, pb] ∧ TabS w tb mb pb b seed pr L l
theorem TabAt.mod {w w' : World} {tb mb b : Nat} {F : List Nat} {pr : Int} {l : List (HK × Int)} (h : TabAt w tb mb F b pr l) {S : List Nat} (hm : Mod S w w') (hS : ∀ k ∈ S, k ∉ F) : TabAt w' tb mb F b pr l := by
  obtain ⟨pb, seed, L, rfl, h⟩ := h
  exact ⟨pb, seed, L, rfl, h.tab.mod hm (fun hk => hS _ hk (by simp)) (fun hk => hS _ hk (by simp)), h.perm, h.room, h.small⟩
theorem TabAt.lt {w : World} {tb mb b : Nat} {F : List Nat} {pr : Int} {l : List (HK × Int)} (h : TabAt w tb mb F b pr l) : ∀ k ∈ F, k < w.heap.size := by
  obtain ⟨pb, seed, L, rfl, h⟩ := h
  intro k hk; simp only [List.mem_cons, List.not_mem_nil, or_false] at hk
  rcases hk with rfl | rfl
  · exact h.tab.blk.lt
  · exact h.tab.places.lt
theorem TabAt.head {w : World} {tb mb b : Nat} {F : List Nat} {pr : Int} {l : List (HK × Int)} (h : TabAt w tb mb F b pr l) : tb ∈ F := by
  obtain ⟨pb, seed, L, rfl, h⟩ := h; simp
/-- Any order of the entries will do. -/
theorem TabAt.perm {w : World} {tb mb b : Nat} {F : List Nat} {pr : Int} {l l' : List (HK × Int)} (h : TabAt w tb mb F b pr l) (hp : l.Perm l') : TabAt w tb mb F b pr l' := by
  obtain ⟨pb, seed, L, rfl, h⟩ := h
  exact ⟨pb, seed, L, rfl, by rw [← hp.length_eq]; exact h.tab, h.perm.trans hp, by rw [← hp.length_eq]; exact h.room, by rw [← hp.length_eq]; exact h.small⟩
theorem ents_nodup {h : HK → Nat} {L : HT} (H : HInv h L) : ((ents L).map (·.1)).Nodup := by
  have key : ∀ (M : HT) (off : Nat), (∀ p q e e', pl M p = some e → pl M q = some e' → e.1 = e'.1 → p = q) → ((ents M).map (·.1)).Nodup := by
    intro M
    induction M with
    | nil => intro _ _; simp [ents]
    | cons o M ih =>
      intro off hu
      have hM : ∀ p q e e', pl M p = some e → pl M q = some e' → e.1 = e'.1 → p = q := by
        intro p q e e' hp hq hk
        have := hu (p + 1) (q + 1) e e' (by simpa [pl] using hp) (by simpa [pl] using hq) hk
        omega
      cases o with
      | none => simpa [ents] using ih 0 hM
      | some e =>
        have : ents (some e :: M) = e :: ents M := by simp [ents]
        rw [this, List.map_cons, List.nodup_cons]
        refine ⟨fun hm => ?_, ih 0 hM⟩
        obtain ⟨e', he', hk⟩ := List.mem_map.1 hm
        obtain ⟨p, hp⟩ := mem_ents.1 he'
        have := hu 0 (p + 1) e e' (by simp [pl]) (by simpa [pl] using hp) hk.symm
        omega
  exact key L 0 H.uniq
theorem TabAt.nodup {w : World} {tb mb b : Nat} {F : List Nat} {pr : Int} {l : List (HK × Int)} (h : TabAt w tb mb F b pr l) : (l.map (·.1)).Nodup := by
  obtain ⟨pb, seed, L, rfl, h⟩ := h
  exact (h.perm.map _).nodup_iff.1 (ents_nodup h.tab.inv)
theorem TabAt.keys {w : World} {tb mb b : Nat} {F : List Nat} {pr : Int} {l : List (HK × Int)} (h : TabAt w tb mb F b pr l) : ∀ e ∈ l, KeyOK e.1 := by
  obtain ⟨pb, seed, L, rfl, h⟩ := h
  exact fun e he => h.tab.keys e (h.perm.mem_iff.2 he)
theorem lk_none {l : List (HK × Int)} {k : HK} : lk l k = none ↔ ∀ e ∈ l, e.1 ≠ k := by unfold lk; simp
theorem lk_some {l : List (HK × Int)} (hn : (l.map (·.1)).Nodup) {e : HK × Int} (he : e ∈ l) : lk l e.1 = some e.2 := by
  induction l with
  | nil => cases he
  | cons a l ih =>
    rw [List.map_cons, List.nodup_cons] at hn
    unfold lk; rw [List.find?_cons]
    rcases List.mem_cons.1 he with rfl | hm
    · simp
    · have hne : a.1 ≠ e.1 := fun h => hn.1 (h ▸ List.mem_map.2 ⟨e, hm, rfl⟩)
      simp only [hne, decide_false]
      exact ih hn.2 hm
theorem lk_mem {l : List (HK × Int)} {k : HK} {v : Int} (h : lk l k = some v) : (k, v) ∈ l := by
  unfold lk at h
  cases hf : l.find? (fun e => decide (e.1 = k)) with
  | none => rw [hf] at h; cases h
  | some e =>
    rw [hf] at h; simp at h
    have h1 := List.find?_some hf
    have h2 := List.mem_of_find?_eq_some hf
    simp at h1
    obtain ⟨e1, e2⟩ := e
    simp only at h h1
    subst h h1; exact h2
theorem lk_perm {l l' : List (HK × Int)} (hn : (l.map (·.1)).Nodup) (hp : l.Perm l') (k : HK) : lk l k = lk l' k := by
  cases h : lk l' k with
  | none => rw [lk_none] at h ⊢; exact fun e he => h e (hp.mem_iff.1 he)
  | some v => exact lk_some hn (hp.mem_iff.2 (lk_mem h))
theorem filter_absent {l : List (HK × Int)} {k : HK} (h : lk l k = none) : l.filter (fun e => decide (e.1 ≠ k)) = l := by
  rw [List.filter_eq_self]; intro e he; simpa using lk_none.1 h e he
theorem filter_present {l : List (HK × Int)} (hn : (l.map (·.1)).Nodup) {k : HK} {v : Int} (h : (k, v) ∈ l) : l.Perm ((k, v) :: l.filter (fun e => decide (e.1 ≠ k))) := by
  induction l with
  | nil => cases h
  | cons a l ih =>
    rw [List.map_cons, List.nodup_cons] at hn
    rcases List.mem_cons.1 h with rfl | hm
    · have : l.filter (fun e => decide (e.1 ≠ k)) = l := by
        rw [List.filter_eq_self]; intro e he; simp; rintro rfl; exact hn.1 (List.mem_map.2 ⟨e, he, rfl⟩)
      simp only [List.filter_cons, ne_eq, not_true_eq_false, decide_false, Bool.false_eq_true, if_false]
      simp only [ne_eq] at this; rw [this]
    · have hne : a.1 ≠ k := fun e => hn.1 (e ▸ List.mem_map.2 ⟨(k, v), hm, rfl⟩)
      simp only [List.filter_cons, ne_eq, hne, not_false_eq_true, decide_true, if_true]
      exact (List.Perm.cons a (ih hn.2 hm)).trans (List.Perm.swap _ _ _)
/-- What find's stop tells of the entries. -/
theorem stop_lk {h : HK → Nat} {L : HT} {l : List (HK × Int)} (H : HInv h L) (hp : (ents L).Perm l) {k : HK} {d : Nat} (s : Stop h L k d) :
    (pl L (up L.length (h k) d) = none ∧ lk l k = none) ∨ ∃ v, pl L (up L.length (h k) d) = some (k, v) ∧ lk l k = some v := by
  cases hpl : pl L (up L.length (h k) d) with
  | none => exact .inl ⟨rfl, lk_none.2 fun e he => s.absent H hpl e (hp.mem_iff.2 he)⟩
  | some e =>
    have hk := s.at_ e hpl
    obtain ⟨k', v⟩ := e
    simp only at hk; subst hk
    refine .inr ⟨v, rfl, ?_⟩
    rw [← lk_perm (ents_nodup H) hp]
    exact lk_some (ents_nodup H) (e := (k', v)) (mem_ents.2 ⟨_, hpl⟩)

set_option maxHeartbeats 400000 in
theorem hash_len_nil (w : World) : Calls Try.prog 85 #[.pointer none] w fun e w' => e = .returned (.int .i64 0) ∧ w = w' := by
  go_enter Try.func85, Try.ntmps85
  go_wp2
  go_ret
  exact ⟨rfl, rfl⟩
set_option maxHeartbeats 400000 in
theorem hash_len {w : World} {tb mb b : Nat} {F : List Nat} {pr : Int} {l : List (HK × Int)} (h : TabAt w tb mb F b pr l) : Calls Try.prog 85 #[.pointer (some ⟨tb, 0, none⟩)] w fun e w' => e = .returned (.int .i64 l.length) ∧ w = w' := by
  obtain ⟨pb, seed, L, rfl, h⟩ := h
  have c3 : w.cell? ⟨tb, 3, none⟩ = some (.int .i64 l.length) := h.tab.blk.cell 3
  clear h
  go_enter Try.func85, Try.ntmps85
  go_wp2
  go_ret
  exact ⟨rfl, rfl⟩

theorem make8 (W : World) : (Instr.makeSlice 128 (.int .i64 8) (.int .i64 8)).run Try.prog W =
    .ok (.slice (some ⟨W.heap.size, 0, none⟩) 8 8) (W.alloc (.cells ((List.replicate 8 (none : Option (HK × Int))).flatMap encE).toArray 143)) := make_entries 8 (by omega) W
/-- The new table's two blocks. -/
theorem TabS.new_ {w : World} {tb mb pb : Nat} {seed : Int} (h1 : Blk w tb 130 (tabCells mb pb 8 seed 0 0)) (h2 : Blk w pb 143 ((List.replicate 8 (none : Option (HK × Int))).flatMap encE).toArray) :
    TabS w tb mb pb 3 seed 0 (List.replicate 8 none) [] :=
  ⟨⟨h1, h2, by simp, by omega, by omega, HInv.empty (fun k => homeF_lt seed 3 (by omega) k), by rw [ents_empty]; simp⟩, by rw [ents_empty], by simp, .inl rfl⟩
set_option maxHeartbeats 400000 in
theorem hash_new (mb : Nat) (seed : Int) (w : World) :
    Calls Try.prog 54 #[.pointer (some ⟨mb, 0, none⟩), .int .u64 seed] w fun e w' => ∃ tb F, e = .returned (.pointer (some ⟨tb, 0, none⟩)) ∧ TabAt w' tb mb F 3 0 [] ∧ Mod [] w w' ∧ ∀ k ∈ F, w.heap.size ≤ k := by
  have hmk := make8
  go_enter Try.func54, Try.ntmps54
  go_wp2
  go_ret
  refine ⟨w.heap.size + 1, [w.heap.size + 1, w.heap.size], rfl, ⟨w.heap.size, seed, _, rfl, TabS.new_ (Blk.new' (by simp) _ _) ((Blk.new' rfl _ _).alloc _)⟩, ((Mod.refl _ w).alloc _).alloc _, ?_⟩
  intro k hk; simp at hk; omega
set_option maxHeartbeats 400000 in
theorem hash_new_nil (seed : Int) (w : World) :
    Calls Try.prog 54 #[.pointer none, .int .u64 seed] w fun e w' => ∃ tb F, e = .returned (.pointer (some ⟨tb, 0, none⟩)) ∧ TabAt w' tb w.heap.size F 3 0 [] ∧ MeterAt w' w.heap.size Mt.zero ∧ w.heap.size ∉ F ∧ Mod [] w w' ∧ ∀ k ∈ F, w.heap.size ≤ k := by
  have hmk := make8
  have hm0 := MeterAt.new w
  go_enter Try.func54, Try.ntmps54
  go_wp2_with (go_at_call 52; refine (meter_new _).mono ?_; rintro e w' ⟨rfl, rfl⟩)
  go_ret
  refine ⟨w.heap.size + 2, [w.heap.size + 2, w.heap.size + 1], rfl, ⟨w.heap.size + 1, seed, _, rfl, TabS.new_ (Blk.new' (by simp) _ _) ((Blk.new' (by simp) _ _).alloc _)⟩, hm0.mod (((Mod.refl [] _).alloc _).alloc _) (by simp), by simp, (((Mod.refl _ w).alloc _).alloc _).alloc _, ?_⟩
  intro k hk; simp at hk; omega
set_option maxHeartbeats 400000 in
theorem hash_clear_nil (w : World) : Calls Try.prog 88 #[.pointer none] w fun e w' => e = .returned (.tuple #[]) ∧ w = w' := by
  go_enter Try.func88, Try.ntmps88
  go_wp2
  go_end0
  exact ⟨rfl, rfl⟩
set_option maxHeartbeats 400000 in
theorem hash_clear {w : World} {tb mb b : Nat} {F : List Nat} {pr : Int} {l : List (HK × Int)} (h : TabAt w tb mb F b pr l) : Calls Try.prog 88 #[.pointer (some ⟨tb, 0, none⟩)] w fun e w' => e = .returned (.tuple #[]) ∧
    ∃ F', TabAt w' tb mb F' 3 0 [] ∧ Mod F w w' ∧ ∀ k ∈ F', k ∈ F ∨ w.heap.size ≤ k := by
  obtain ⟨pb, seed, L, rfl, h⟩ := h
  have hmk := make8
  have hlt := h.tab.blk.lt
  have hb := h.tab.blk
  have c1 : w.cell? ⟨tb, 1, none⟩ = some (.slice (some ⟨pb, 0, none⟩) L.length L.length) := h.tab.blk.cell 1
  have c3 : w.cell? ⟨tb, 3, none⟩ = some (.int .i64 l.length) := h.tab.blk.cell 3
  have c4 : w.cell? ⟨tb, 4, none⟩ = some (.int .i64 pr) := h.tab.blk.cell 4
  have f1 := h.tab.blk.frozen 1
  have f3 := h.tab.blk.frozen 3
  have f4 := h.tab.blk.frozen 4
  have HB : Hidden (Blk w tb 130 (tabCells mb pb L.length seed l.length pr)) := ⟨hb⟩
  clear h hb
  go_enter Try.func88, Try.ntmps88
  go_wp2
  go_end0
  refine ⟨rfl, [tb, w.heap.size], ⟨w.heap.size, seed, _, rfl, TabS.new_ ((((HB.out.set 1 _).set 3 _).set 4 _).alloc _) (Blk.new' (by simp [World.setCell]) _ _)⟩, ?_, by simp⟩
  exact ((((Mod.refl _ w).set (.inl (by simp)) _).set (.inl (by simp)) _).set (.inl (by simp)) _).alloc _

set_option maxHeartbeats 400000 in
theorem hash_get_nil (k : HK) (w : World) : Calls Try.prog 97 #[.pointer none, keyV k] w fun e w' => e = .returned (.tuple #[.int .u64 0, .bool false]) ∧ Mod [] w w' := by
  unfold keyV
  go_enter Try.func97, Try.ntmps97
  go_wp2
  go_ret2
  exact ⟨rfl, (Mod.refl _ w).alloc _⟩
theorem TabS.free {w : World} {tb mb pb b : Nat} {seed pr : Int} {L : HT} {l : List (HK × Int)} (h : TabS w tb mb pb b seed pr L l) : ∃ z, z < L.length ∧ pl L z = none :=
  free_exists (by rw [h.perm.length_eq]; have := h.room; have := h.tab.N2; omega)
set_option maxRecDepth 100000 in
set_option maxHeartbeats 1000000 in
theorem hash_get {w : World} {tb mb b : Nat} {F : List Nat} {pr : Int} {l : List (HK × Int)} {m : Mt} (k : HK) (hk : KeyOK k) (h : TabAt w tb mb F b pr l) (hm : MeterAt w mb m) (hmF : mb ∉ F) :
    Calls Try.prog 97 #[.pointer (some ⟨tb, 0, none⟩), keyV k] w fun e w' => e = .returned (.tuple #[.int .u64 ((lk l k).getD 0), .bool (lk l k).isSome]) ∧
      ∃ pr', TabAt w' tb mb F b pr' l ∧ MeterAt w' mb m.call ∧ Mod (mb :: F) w w' ∧ 1 ≤ pr' ∧ pr' ≤ ((2 ^ b : Nat) : Int) := by
  obtain ⟨pb, seed, L, rfl, h⟩ := h
  obtain ⟨z, hz, hfree⟩ := h.free
  have hlt := h.tab.blk.lt
  have hplt := h.tab.places.lt
  have hmlt := hm.lt
  have hmt : mb ≠ tb := fun e => hmF (by simp [e])
  have hmp : mb ≠ pb := fun e => hmF (by simp [e])
  have c0 : w.cell? ⟨tb, 0, none⟩ = some (.pointer (some ⟨mb, 0, none⟩)) := h.tab.blk.cell 0
  have hcall := fun o => meter_call mb m (w.alloc o) (hm.mod ((Mod.refl [] w).alloc o) (by simp))
  have hKb : Blk (w.alloc (.cells #[.int .u8 k.1, .int .u64 k.2] 106)) w.heap.size 106 #[.int .u8 k.1, .int .u64 k.2] := Blk.new _ _ _
  have H : Hidden (TabS w tb mb pb b seed pr L l) := ⟨h⟩
  have HZ : Hidden (z < L.length ∧ pl L z = none) := ⟨hz, hfree⟩
  clear h hm hz hfree hmF
  obtain ⟨k1, k2⟩ := k
  unfold keyV
  simp only at hKb
  go_enter Try.func97, Try.ntmps97
  go_wp2_with fail
  refine (hcall _).mono ?_
  clear hcall
  rintro e w1 ⟨rfl, hm1, hmod1⟩
  have ht1 : TabIn w1 tb mb pb b seed L l.length pr := H.out.tab.mod (((Mod.refl [mb] w).alloc _).trans hmod1 (by simp)) (by simp; omega) (by simp; omega)
  have hKb1 := hKb.mod hmod1 (by simp; omega)
  have hmod2 : Mod [mb, tb, pb] w w1 := (((Mod.refl [mb] w).alloc _).trans hmod1 (by simp)).mono (by simp +contextual)
  have x0 : w1.cell? ⟨w.heap.size, 0, none⟩ = some (.int .u8 k1) := hKb1.cell 0
  have x1 : w1.cell? ⟨w.heap.size, 1, none⟩ = some (.int .u64 k2) := hKb1.cell 1
  have hf := find_any tb mb pb b l.length seed pr L (k1, k2) w1 ht1 hk HZ.out.1 HZ.out.2
  unfold keyV at hf
  clear hmod1 hKb hKb1 ht1
  go_wp2_with fail
  refine hf.mono ?_
  clear hf x0 x1 c0
  rintro e w2 ⟨d, hd, rfl, ht2, hmod3⟩
  have hst := stop_lk ht2.inv H.out.perm hd
  have hu := up_spec (ht2.inv.home (k1, k2)) hd.lt
  have hdl := hd.lt
  have HR : Hidden (TabAt w2 tb mb [tb, pb] b ((d : Int) + 1) l ∧ MeterAt w2 mb m.call ∧ Mod [mb, tb, pb] w w2 ∧ 1 ≤ (d : Int) + 1 ∧ (d : Int) + 1 ≤ ((2 ^ b : Nat) : Int)) :=
    ⟨⟨pb, seed, L, rfl, ht2, H.out.perm, H.out.room, H.out.small⟩, hm1.mod hmod3 (by simp; omega), hmod2.trans hmod3 (by simp), by omega, by rw [← ht2.len]; omega⟩
  rcases hst with ⟨hp, hl⟩ | ⟨v, hp, hl⟩
  · rw [hp]
    simp only [Option.isSome_none]
    have HLk : Hidden (lk l (k1, k2) = none) := ⟨hl⟩
    clear hp hl hd hmod2 hmod3 ht2 hm1
    go_wp2_with fail
    go_ret2
    rw [HLk.out]
    exact ⟨rfl, _, HR.out⟩
  · have p2 := place_cell ht2.places hu.1 2 (by omega)
    rw [hp] at p2
    simp only [encE, List.getElem?_cons_zero, List.getElem?_cons_succ] at p2
    have hc1 : w2.cell? ⟨tb, 1, none⟩ = some (.slice (some ⟨pb, 0, none⟩) L.length L.length) := ht2.blk.cell 1
    rw [hp]
    simp only [Option.isSome_some]
    have HLk : Hidden (lk l (k1, k2) = some v) := ⟨hl⟩
    clear hp hl hd hmod2 hmod3 hm1
    have hul := hu.1
    have hN2 := ht2.N2
    clear ht2 hu
    generalize up L.length (homeF seed b (k1, k2)) d = u at *
    go_wp2_with fail
    go_ret2
    rw [HLk.out]
    exact ⟨rfl, _, HR.out⟩
end Go.Proofs.Ytfioekkegihkoaa

/- The hash table: Put. -/
namespace Go.Proofs.Ytfioekkegihkoaa
open Go.RowKit
set_option linter.unusedVariables false
set_option linter.unusedSimpArgs false

theorem pow_small {b n : Nat} (h : b = 3 ∨ 2 ^ b ≤ 8 * n) (hn : n ≤ 1073741824) : b ≤ 33 := by
  rcases h with rfl | h
  · omega
  · have : 2 ^ b ≤ 2 ^ 33 := Nat.le_trans h (by have : (2 : Nat) ^ 33 = 8589934592 := by decide
                                                omega)
    exact (Nat.pow_le_pow_iff_right (by omega)).1 this
set_option maxHeartbeats 400000 in
theorem hash_put_nil (k : HK) (v : Int) (w : World) : Calls Try.prog 78 #[.pointer none, keyV k, .int .u64 v] w fun e w' => e = .returned (.bool false) ∧ Mod [] w w' := by
  unfold keyV
  go_enter Try.func78, Try.ntmps78
  go_wp2
  go_ret
  exact ⟨rfl, (Mod.refl _ w).alloc _⟩
set_option maxRecDepth 100000 in
set_option maxHeartbeats 2000000 in
theorem hash_put {w : World} {tb mb b : Nat} {F : List Nat} {pr : Int} {l : List (HK × Int)} (k : HK) (v : Int) (hk : KeyOK k) (h : TabAt w tb mb F b pr l) (hln : l.length ≤ 1073741824) :
    Calls Try.prog 78 #[.pointer (some ⟨tb, 0, none⟩), keyV k, .int .u64 v] w fun e w' => e = .returned (.bool (lk l k).isNone) ∧
      ∃ F' b' pr', TabAt w' tb mb F' b' pr' (putL l k v) ∧ Mod F w w' ∧ (∀ q ∈ F', q ∈ F ∨ w.heap.size ≤ q) ∧ 1 ≤ pr' ∧ pr' ≤ ((2 ^ b : Nat) : Int) := by
  have hnd := h.nodup
  obtain ⟨pb, seed, L, rfl, h⟩ := h
  obtain ⟨z, hz, hfree⟩ := h.free
  have hlt := h.tab.blk.lt
  have hplt := h.tab.places.lt
  have hne := h.tab.ne
  have hKb : Blk (w.alloc (.cells #[.int .u8 k.1, .int .u64 k.2] 106)) w.heap.size 106 #[.int .u8 k.1, .int .u64 k.2] := Blk.new _ _ _
  have hf := find_any tb mb pb b l.length seed pr L k (w.alloc (.cells #[.int .u8 k.1, .int .u64 k.2] 106)) (h.tab.mod ((Mod.refl [] w).alloc _) (by simp) (by simp)) hk hz hfree
  have H : Hidden (TabS w tb mb pb b seed pr L l) := ⟨h⟩
  have hM : Mod [tb, pb] w (w.alloc (.cells #[.int .u8 k.1, .int .u64 k.2] 106)) := (Mod.refl _ w).alloc _
  clear h hz hfree
  obtain ⟨k1, k2⟩ := k
  unfold keyV at hf ⊢
  simp only at hKb hf hM
  go_enter Try.func78, Try.ntmps78
  go_wp2_with fail
  refine hf.mono ?_
  clear hf
  rintro e w2 ⟨d, hd, rfl, ht2, hmod3⟩
  have hst := stop_lk ht2.inv H.out.perm hd
  have hu := up_spec (ht2.inv.home (k1, k2)) hd.lt
  have hdl := hd.lt
  have hKb2 := hKb.mod hmod3 (by simp; omega)
  have x0 : w2.cell? ⟨w.heap.size, 0, none⟩ = some (.int .u8 k1) := hKb2.cell 0
  have x1 : w2.cell? ⟨w.heap.size, 1, none⟩ = some (.int .u64 k2) := hKb2.cell 1
  have hM2 := hM.trans hmod3 (by simp)
  have hput := hd.put ht2.inv v
  have hpe := ents_set hu.1 (some ((k1, k2), v))
  have hN2 := ht2.N2
  have hul := hu.1
  have hc1 : w2.cell? ⟨tb, 1, none⟩ = some (.slice (some ⟨pb, 0, none⟩) L.length L.length) := ht2.blk.cell 1
  have hc3 : w2.cell? ⟨tb, 3, none⟩ = some (.int .i64 l.length) := ht2.blk.cell 3
  have hf3 := ht2.blk.frozen 3
  have hlt2 := ht2.blk.lt
  have hplt2 := ht2.places.lt
  have hpr : Hidden (1 ≤ (d : Int) + 1 ∧ (d : Int) + 1 ≤ ((2 ^ b : Nat) : Int)) := ⟨by omega, by rw [← ht2.len]; omega⟩
  have hkeys : Hidden (∀ e ∈ (ents (L.set (up L.length (homeF seed b (k1, k2)) d) (some ((k1, k2), v)))), KeyOK e.1) := ⟨fun e he => by
    have : e ∈ (some ((k1, k2), v)).toList ++ ents L := by
      refine hpe.symm.mem_iff.1 ?_
      exact List.mem_append_right _ he
    simp only [Option.toList_some, List.singleton_append, List.mem_cons] at this
    rcases this with rfl | hm
    · exact hk
    · exact ht2.keys e hm⟩
  have q0 := place_cell ht2.places hu.1 0 (by omega)
  have q1 := place_cell ht2.places hu.1 1 (by omega)
  have q2 := place_cell ht2.places hu.1 2 (by omega)
  have q3 := place_cell ht2.places hu.1 3 (by omega)
  have g0 := ht2.places.frozen (up L.length (homeF seed b (k1, k2)) d * 4)
  have g1 := ht2.places.frozen (up L.length (homeF seed b (k1, k2)) d * 4 + 1)
  have g2 := ht2.places.frozen (up L.length (homeF seed b (k1, k2)) d * 4 + 2)
  have g3 := ht2.places.frozen (up L.length (homeF seed b (k1, k2)) d * 4 + 3)
  rcases hst with ⟨hp, hl⟩ | ⟨u, hp, hl⟩
  · rw [hp] at q0 q1 q2 q3 hpe ⊢
    simp only [encE, Nat.add_zero, List.getElem?_cons_zero, List.getElem?_cons_succ, Option.toList_none, Option.toList_some, List.nil_append, List.singleton_append, Option.isSome_none] at q0 q1 q2 q3 hpe ⊢
    generalize hU : up L.length (homeF seed b (k1, k2)) d = u at *
    have hT4 : TabIn (((((w2.setCell ⟨pb, u * 4, none⟩ (.int .u8 k1)).setCell ⟨pb, u * 4 + 1, none⟩ (.int .u64 k2)).setCell ⟨pb, u * 4 + 2, none⟩ (.int .u64 v)).setCell ⟨pb, u * 4 + 3, none⟩ (.bool true)).setCell ⟨tb, 3, none⟩ (.int .i64 ((l.length : Int) + 1))) tb mb pb b seed (L.set u (some ((k1, k2), v))) (l.length + 1) ((d : Int) + 1) := by
      refine ⟨?_, (places_set ht2.places hul (some ((k1, k2), v)) rfl).far (p := ⟨tb, 3, none⟩) (Ne.symm hne) _, by rw [List.length_set]; exact ht2.len, ht2.b3, ht2.b40, hput, hkeys.out⟩
      rw [List.length_set]
      exact ((((ht2.blk.far (p := ⟨pb, u * 4, none⟩) hne _).far (p := ⟨pb, u * 4 + 1, none⟩) hne _).far (p := ⟨pb, u * 4 + 2, none⟩) hne _).far (p := ⟨pb, u * 4 + 3, none⟩) hne _).set 3 _
    have hM4 : Mod [tb, pb] w (((((w2.setCell ⟨pb, u * 4, none⟩ (.int .u8 k1)).setCell ⟨pb, u * 4 + 1, none⟩ (.int .u64 k2)).setCell ⟨pb, u * 4 + 2, none⟩ (.int .u64 v)).setCell ⟨pb, u * 4 + 3, none⟩ (.bool true)).setCell ⟨tb, 3, none⟩ (.int .i64 ((l.length : Int) + 1))) :=
      ((((hM2.set (.inl (by simp)) _).set (.inl (by simp)) _).set (.inl (by simp)) _).set (.inl (by simp)) _).set (.inl (by simp)) _
    have hP4 : Hidden ((ents (L.set u (some ((k1, k2), v)))).Perm (putL l (k1, k2) v)) := ⟨by
      refine hpe.symm.trans ?_
      unfold putL; rw [filter_absent hl]
      exact List.Perm.cons _ H.out.perm⟩
    have HLk : Hidden (lk l (k1, k2) = none ∧ (putL l (k1, k2) v).length = l.length + 1) := ⟨hl, by unfold putL; rw [filter_absent hl]; rfl⟩
    have hsm : b = 3 ∨ 2 ^ b ≤ 8 * l.length := by
      rcases H.out.small with h | h
      · exact .inl h
      · right; rw [← ht2.len]; exact h
    have hb33 : b ≤ 33 := pow_small hsm hln
    have hb3' := ht2.b3
    have HB : Hidden (3 ≤ b + 1 ∧ b + 1 ≤ 40 ∧ 2 * L.length = 2 ^ (b + 1) ∧ (ents (L.set u (some ((k1, k2), v)))).length < 2 * L.length) := ⟨by omega, by omega, by rw [ht2.len, Nat.pow_succ]; omega, by rw [hP4.out.length_eq, HLk.out.2]; have := H.out.room; omega⟩
    have HT4 := Hidden.mk hT4
    have HM4 := Hidden.mk hM4
    clear hp hl hd hmod3 hKb hKb2 hM hM2 hput hpe hkeys hU hu ht2 hT4 hM4
    go_wp2_with fail
    refine wp_tail 9 (by kernel_rfl) (by kernel_rfl) ?_
    simp only [List.take_succ_cons, List.take_zero, List.drop_succ_cons, List.drop_zero]
    repeat still_step
    refine wpStill_nil ?_
    by_cases hroom : 2 * (l.length + 1) ≤ L.length
    · go_wp2_with fail
      go_quiet (fail)
      go_wp2_with fail
      go_ret
      rw [HLk.out.1]
      refine ⟨rfl, [tb, pb], b, (d : Int) + 1, ⟨pb, seed, _, rfl, ?_, hP4.out, by rw [HLk.out.2, List.length_set]; exact hroom, ?_⟩, HM4.out.drew.drewN _, fun q hq => .inl hq, hpr.out.1, hpr.out.2⟩
      · rw [HLk.out.2]; exact HT4.out.mod (((Mod.refl [] _).drew).drewN _) (by simp) (by simp)
      · rw [HLk.out.2, List.length_set]
        rcases H.out.small with h | h
        · exact .inl h
        · right; omega
    · have hlarge : (L.length : Int) < 2 * ((l.length : Int) + 1) := by omega
      go_wp2_with fail
      go_quiet (fail)
      go_wp2_with fail
      rw [show (2 * (L.length : Int)) = ((2 * L.length : Nat) : Int) from by omega]
      refine (rehash_any tb mb pb b (l.length + 1) (b + 1) (2 * L.length) seed ((d : Int) + 1) _ _ (HT4.out.mod ((Mod.refl [] _).drewN _) (by simp) (by simp)) HB.out.1 HB.out.2.1 HB.out.2.2.1 HB.out.2.2.2).mono ?_
      rintro e w5 ⟨rfl, pb', L', ht5, hpe5, hm5, hpb5⟩
      have hM5 := (HM4.out.drewN _).trans hm5 (by simp)
      have hsz : w.heap.size ≤ pb' := Nat.le_trans HM4.out.size hpb5
      have HR : Hidden (TabAt w5 tb mb [tb, pb'] (b + 1) ((d : Int) + 1) (putL l (k1, k2) v) ∧ Mod [tb, pb] w w5 ∧ w.heap.size ≤ pb') := by
        refine ⟨⟨pb', seed, L', rfl, ?_, hpe5.trans hP4.out, ?_, ?_⟩, hM5, hsz⟩
        · rw [HLk.out.2]; exact ht5
        · rw [HLk.out.2, ht5.len, ← HB.out.2.2.1]; have := H.out.room; omega
        · rw [HLk.out.2, ht5.len, ← HB.out.2.2.1]; right; omega
      clear ht5 hpe5 hm5 hpb5 hM5 hsz
      go_wp2_with fail
      go_ret
      rw [HLk.out.1]
      refine ⟨rfl, _, _, _, HR.out.1, HR.out.2.1, ?_, hpr.out.1, hpr.out.2⟩
      intro q hq; simp only [List.mem_cons, List.not_mem_nil, or_false] at hq ⊢
      rcases hq with rfl | rfl
      · exact .inl (.inl rfl)
      · exact .inr HR.out.2.2
  · rw [hp] at q0 q1 q2 q3 hpe ⊢
    simp only [encE, Nat.add_zero, List.getElem?_cons_zero, List.getElem?_cons_succ, Option.toList_some, List.singleton_append, Option.isSome_some] at q0 q1 q2 q3 hpe ⊢
    generalize hU : up L.length (homeF seed b (k1, k2)) d = i at *
    have hself : (((((w2.setCell ⟨pb, i * 4, none⟩ (.int .u8 k1)).setCell ⟨pb, i * 4 + 1, none⟩ (.int .u64 k2)).setCell ⟨pb, i * 4 + 2, none⟩ (.int .u64 v)).setCell ⟨pb, i * 4 + 3, none⟩ (.bool true))).heap[pb]? = (w2.setCell ⟨pb, i * 4 + 2, none⟩ (.int .u64 v)).heap[pb]? := by
      have e1 := ((((ht2.places.set (i * 4) (.int .u8 k1)).set (i * 4 + 1) (.int .u64 k2)).set (i * 4 + 2) (.int .u64 v)).set (i * 4 + 3) (.bool true))
      have e2 := ht2.places.set (i * 4 + 2) (.int .u64 v)
      unfold Blk at e1 e2
      rw [e1, e2]; congr 2
      have hx : ∀ (j : Nat) (x : Value), j < 4 → (encE (some ((k1, k2), u)))[j]? = some x → (L.flatMap encE)[i * 4 + j]? = some x := by
        intro j x hj hx
        rw [flat_get encE 4 encE_len _ _ _ hj, pl_get hul, hp]; exact hx
      have hx0 := hx 0 _ (by omega) rfl
      have hx1 := hx 1 _ (by omega) rfl
      have hx3 := hx 3 _ (by omega) rfl
      simp only [Nat.add_zero] at hx0
      apply Array.ext'
      simp only [toArray_set]
      apply List.ext_getElem?
      intro n
      simp only [List.getElem?_set, List.length_set]
      grind
    have hpl2 : Blk (w2.setCell ⟨pb, i * 4 + 2, none⟩ (.int .u64 v)) pb 143 ((L.set i (some ((k1, k2), v))).flatMap encE).toArray := by
      have := places_set ht2.places hul (some ((k1, k2), v)) rfl
      unfold Blk at this ⊢; rw [← hself]; exact this
    have HLk : Hidden (lk l (k1, k2) = some u) := ⟨hl⟩
    have hpp : (ents (L.set i (some ((k1, k2), v)))).Perm (putL l (k1, k2) v) := by
      have h1 : (((k1, k2), u) :: ents (L.set i (some ((k1, k2), v)))).Perm (((k1, k2), u) :: putL l (k1, k2) v) := by
        refine hpe.symm.trans ?_
        refine (List.Perm.cons _ (H.out.perm.trans (filter_present hnd (lk_mem hl)))).trans ?_
        exact List.Perm.swap _ _ _
      exact h1.cons_inv
    have hlen2 : (putL l (k1, k2) v).length = l.length := by
      have := (filter_present hnd (lk_mem hl)).length_eq
      unfold putL; simpa using this.symm
    have HR : Hidden (TabAt (w2.setCell ⟨pb, i * 4 + 2, none⟩ (.int .u64 v)) tb mb [tb, pb] b ((d : Int) + 1) (putL l (k1, k2) v) ∧ Mod [tb, pb] w (w2.setCell ⟨pb, i * 4 + 2, none⟩ (.int .u64 v))) := by
      refine ⟨⟨pb, seed, _, rfl, ?_, hpp, by rw [hlen2, List.length_set]; exact H.out.room, by rw [hlen2, List.length_set]; exact H.out.small⟩, hM2.set (.inl (by simp)) _⟩
      rw [hlen2]
      exact ⟨by rw [List.length_set]; exact ht2.blk.far (p := ⟨pb, i * 4 + 2, none⟩) hne _, hpl2, by rw [List.length_set]; exact ht2.len, ht2.b3, ht2.b40, hput, hkeys.out⟩
    clear hp hl hd hmod3 hKb hKb2 hM hM2 hput hpe hkeys hU hu ht2 hself hpl2 hpp hlen2
    go_wp2_with fail
    go_ret
    rw [HLk.out]
    exact ⟨rfl, _, _, _, HR.out.1, HR.out.2, fun q hq => .inl hq, hpr.out.1, hpr.out.2⟩
end Go.Proofs.Ytfioekkegihkoaa

/- The hash table: Drop. -/
namespace Go.Proofs.Ytfioekkegihkoaa
open Go.RowKit
set_option linter.unusedVariables false
set_option linter.unusedSimpArgs false

set_option maxHeartbeats 400000 in
theorem hash_drop_nil (k : HK) (w : World) : Calls Try.prog 81 #[.pointer none, keyV k] w fun e w' => e = .returned (.bool false) ∧ Mod [] w w' := by
  unfold keyV
  go_enter Try.func81, Try.ntmps81
  go_wp2
  go_ret
  exact ⟨rfl, (Mod.refl _ w).alloc _⟩
/-- While an entry is taken out: the places, the hole, the next place to be looked at. -/
structure DropIn (w0 w : World) (tb mb pb b : Nat) (seed : Int) (n : Nat) (pr : Int) (l : List (HK × Int)) (z : Nat) (L : HT) (hole i : Nat) : Prop where
  blk : Blk w tb 130 (tabCells mb pb L.length seed n pr)
  places : Blk w pb 143 (L.flatMap encE).toArray
  len : L.length = 2 ^ b
  inv : DInv (homeF seed b) l L z hole i
  keys : ∀ e ∈ ents L, KeyOK e.1
  mod : Mod [tb, pb] w0 w
theorem DropIn.next {w0 w w' : World} {tb mb pb b : Nat} {seed : Int} {n : Nat} {pr : Int} {l : List (HK × Int)} {z : Nat} {L : HT} {hole i : Nat} (h : DropIn w0 w tb mb pb b seed n pr l z L hole i) (hm : Mod [] w w') : DropIn w0 w' tb mb pb b seed n pr l z L hole i :=
  ⟨h.blk.mod hm (by simp), h.places.mod hm (by simp), h.len, h.inv, h.keys, h.mod.trans hm (by simp)⟩
set_option maxRecDepth 100000 in
set_option maxHeartbeats 4000000 in
theorem hash_drop_loop (tb mb pb b : Nat) (seed : Int) (n : Nat) (pr : Int) (l : List (HK × Int)) (z : Nat) (L : HT) (i hole : Nat) (w0 wr : World) (e : HK × Int) (b3 : 3 ≤ b) (b40 : b ≤ 40) (h : DropIn w0 wr tb mb pb b seed n pr l z L hole i) (he : pl L i = some e) :
    (far L.length (homeF seed b e.1) i < far L.length hole i → DropIn w0 wr tb mb pb b seed n pr l z L hole (nx L.length i)) ∧
    (far L.length hole i ≤ far L.length (homeF seed b e.1) i → DropIn w0 ((((wr.setCell ⟨pb, hole * 4, none⟩ (.int .u8 e.1.1)).setCell ⟨pb, hole * 4 + 1, none⟩ (.int .u64 e.1.2)).setCell ⟨pb, hole * 4 + 2, none⟩ (.int .u64 e.2)).setCell ⟨pb, hole * 4 + 3, none⟩ (.bool true)) tb mb pb b seed n pr l z (L.set hole (some e)) i (nx L.length i)) ∧
    far L.length (nx L.length i) z + 1 = far L.length i z := by
  have hne := h.blk.ne h.places (by decide)
  refine ⟨fun hf => ⟨h.blk, h.places, h.len, (h.inv.stay he hf).1, h.keys, h.mod⟩, fun hf => ?_, ?_⟩
  · refine ⟨?_, places_set h.places h.inv.holeL (some e) rfl, by rw [List.length_set]; exact h.len, ?_, ?_, ?_⟩
    · rw [List.length_set]
      exact (((h.blk.far (p := ⟨pb, hole * 4, none⟩) hne _).far (p := ⟨pb, hole * 4 + 1, none⟩) hne _).far (p := ⟨pb, hole * 4 + 2, none⟩) hne _).far (p := ⟨pb, hole * 4 + 3, none⟩) hne _
    · exact (h.inv.move he hf).1
    · intro e' he'
      obtain ⟨p, hp⟩ := mem_ents.1 he'
      rw [pl_set _ h.inv.holeL] at hp
      split at hp
      · cases hp; exact h.keys e (mem_ents.2 ⟨i, he⟩)
      · exact h.keys e' (mem_ents.2 ⟨p, hp⟩)
    · exact (((h.mod.set (.inl (by simp)) _).set (.inl (by simp)) _).set (.inl (by simp)) _).set (.inl (by simp)) _
  · rcases Nat.lt_or_ge (far L.length (homeF seed b e.1) i) (far L.length hole i) with hf | hf
    · exact (h.inv.stay he hf).2
    · exact (h.inv.move he hf).2
theorem bool_geq (a b : Nat) : decide ((b : Int) ≤ (a : Int)) = decide (b ≤ a) := by simp

set_option maxRecDepth 100000 in
set_option maxHeartbeats 4000000 in
theorem hash_drop_yes {w : World} {tb mb pb b : Nat} {seed pr : Int} {L : HT} {l : List (HK × Int)} (k : HK) (v : Int) (hk : KeyOK k) (h : TabS w tb mb pb b seed pr L l) (hnd : (l.map (·.1)).Nodup) (hl : lk l k = some v) :
    Calls Try.prog 81 #[.pointer (some ⟨tb, 0, none⟩), keyV k] w fun e w' => e = .returned (.bool true) ∧
      ∃ F' b' pr', TabAt w' tb mb F' b' pr' (dropL l k) ∧ Mod [tb, pb] w w' ∧ (∀ q ∈ F', q ∈ [tb, pb] ∨ w.heap.size ≤ q) ∧ 1 ≤ pr' ∧ pr' ≤ ((2 ^ b : Nat) : Int) := by
  obtain ⟨z, hz, hfree⟩ := h.free
  have hlt := h.tab.blk.lt
  have hplt := h.tab.places.lt
  have hne := h.tab.ne
  have hpd := filter_present hnd (lk_mem hl)
  have hlen := hpd.length_eq
  have hKb : Blk (w.alloc (.cells #[.int .u8 k.1, .int .u64 k.2] 106)) w.heap.size 106 #[.int .u8 k.1, .int .u64 k.2] := Blk.new _ _ _
  have hf := find_any tb mb pb b l.length seed pr L k (w.alloc (.cells #[.int .u8 k.1, .int .u64 k.2] 106)) (h.tab.mod ((Mod.refl [] w).alloc _) (by simp) (by simp)) hk hz hfree
  have H : Hidden (TabS w tb mb pb b seed pr L l) := ⟨h⟩
  have hM : Mod [tb, pb] w (w.alloc (.cells #[.int .u8 k.1, .int .u64 k.2] 106)) := (Mod.refl _ w).alloc _
  have HZ : Hidden (z < L.length ∧ pl L z = none ∧ lk l k = some v ∧ l.length = (dropL l k).length + 1 ∧ l.Perm ((k, v) :: dropL l k)) := ⟨hz, hfree, hl, by unfold dropL; simpa using hlen, hpd⟩
  clear h hz hfree hl hlen hpd
  obtain ⟨k1, k2⟩ := k
  unfold keyV at hf ⊢
  simp only at hKb hf hM
  go_enter Try.func81, Try.ntmps81
  go_wp2_with fail
  refine hf.mono ?_
  clear hf
  rintro e w2 ⟨d, hd, rfl, ht2, hmod3⟩
  have hst := stop_lk ht2.inv H.out.perm hd
  have hu := up_spec (ht2.inv.home (k1, k2)) hd.lt
  have hdl := hd.lt
  rcases hst with ⟨hp, hl⟩ | ⟨v', hp, hl⟩
  · rw [HZ.out.2.2.1] at hl; cases hl
  have hvv : v' = v := by have := HZ.out.2.2.1; rw [hl] at this; cases this; rfl
  subst hvv
  have hpr : Hidden (1 ≤ (d : Int) + 1 ∧ (d : Int) + 1 ≤ ((2 ^ b : Nat) : Int)) := ⟨by omega, by rw [← ht2.len]; omega⟩
  rw [hp]
  simp only [Option.isSome_some]
  generalize hU : up L.length (homeF seed b (k1, k2)) d = hole at *
  have hD0 : DropIn w w2 tb mb pb b seed l.length ((d : Int) + 1) (dropL l (k1, k2)) z L hole (nx L.length hole) :=
    ⟨ht2.blk, ht2.places, ht2.len, ht2.inv.del hp HZ.out.1 HZ.out.2.1 (H.out.perm.trans HZ.out.2.2.2.2), ht2.keys, hM.trans hmod3 (by simp)⟩
  have hb3 := ht2.b3
  have hb40 := ht2.b40
  have hN2 := ht2.N2
  have hnext := next_any tb pb hole L.length b w2 ht2.b40 ht2.len hu.1 (ht2.blk.cell 1)
  clear hp hl hd hmod3 hKb hM hU hu ht2
  go_wp2_with (go_at_call 115; refine hnext.mono ?_; clear hnext; rintro e w' ⟨rfl, rfl⟩)
  go_loopw [5, 7] (fun hv iv wr => ∃ (L' : HT) (hole i : Nat), hv = .int .i64 hole ∧ iv = .int .i64 i ∧ L'.length = L.length ∧ DropIn w wr tb mb pb b seed l.length ((d : Int) + 1) (dropL l (k1, k2)) z L' hole i) (fun _ iv _ => far L.length (intOf iv).toNat z)
  case atStart => exact ⟨L, hole, nx L.length hole, rfl, rfl, rfl, hD0⟩
  case round =>
    clear hD0
    obtain ⟨L', ho, i, rfl, rfl, hL', hD⟩ := hrel
    have hiL := hD.inv.iL
    have hhL := hD.inv.holeL
    have hc1 : wr.cell? ⟨tb, 1, none⟩ = some (.slice (some ⟨pb, 0, none⟩) L'.length L'.length) := hD.blk.cell 1
    have hc2 : wr.cell? ⟨tb, 2, none⟩ = some (.int .u64 seed) := hD.blk.cell 2
    have hc3 : wr.cell? ⟨tb, 3, none⟩ = some (.int .i64 l.length) := hD.blk.cell 3
    have hlt2 := hD.blk.lt
    have p0 := place_cell hD.places hiL 0 (by omega)
    have p1 := place_cell hD.places hiL 1 (by omega)
    have p3 := place_cell hD.places hiL 3 (by omega)
    have HD : Hidden (DropIn w wr tb mb pb b seed l.length ((d : Int) + 1) (dropL l (k1, k2)) z L' ho i) := ⟨hD⟩
    have HLL : Hidden (L'.length = L.length) := ⟨hL'⟩
    have hN3 : 8 ≤ L'.length ∧ L'.length ≤ 1099511627776 := by omega
    have hfull : ∃ e, pl L' ho = some e := by cases hx : pl L' ho with
      | none => exact absurd hx hD.inv.full
      | some e => exact ⟨e, rfl⟩
    obtain ⟨eh, heh⟩ := hfull
    cases hpi : pl L' i with
    | some e =>
      obtain ⟨⟨e1, e2⟩, ev⟩ := e
      rw [hpi] at p0 p1 p3
      simp only [encE, Nat.add_zero, List.getElem?_cons_zero, List.getElem?_cons_succ] at p0 p1 p3
      have hek := hD.keys _ (mem_ents.2 ⟨i, hpi⟩)
      have hhome := home_any tb pb seed e1 e2 b L'.length wr (by omega) hb40 hD.len hek.p hek.l0 hek.l1 hc1 hc2 hlt2
      have hhlt : homeF seed b (e1, e2) < L'.length := hD.inv.home _
      have hfar1 := fun W (hc : W.cell? ⟨tb, 1, none⟩ = some (.slice (some ⟨pb, 0, none⟩) L'.length L'.length)) => far_any tb pb (homeF seed b (e1, e2)) i L'.length b W hb40 hD.len hhlt hiL hc
      have hfar2 := fun W (hc : W.cell? ⟨tb, 1, none⟩ = some (.slice (some ⟨pb, 0, none⟩) L'.length L'.length)) => far_any tb pb ho i L'.length b W hb40 hD.len hhL hiL hc
      have hnext := fun W (hc : W.cell? ⟨tb, 1, none⟩ = some (.slice (some ⟨pb, 0, none⟩) L'.length L'.length)) => next_any tb pb i L'.length b W hb40 hD.len hiL hc
      have HPI : Hidden (pl L' i = some ((e1, e2), ev) ∧ pl L' ho = some eh) := ⟨hpi, heh⟩
      clear hL' hpi hek heh hD hc3
      go_wp2_with fail
      refine hhome.mono ?_
      clear hhome hc1 hc2 hlt2 p0 p1 p3
      rintro e w3 ⟨rfl, hm3⟩
      have hD := HD.out.next hm3
      have hloop := hash_drop_loop tb mb pb b seed l.length ((d : Int) + 1) (dropL l (k1, k2)) z L' i ho w w3 _ hb3 hb40 hD HPI.out.1
      have hc1 : w3.cell? ⟨tb, 1, none⟩ = some (.slice (some ⟨pb, 0, none⟩) L'.length L'.length) := hD.blk.cell 1
      have p0 := place_cell hD.places hiL 0 (by omega)
      have p1 := place_cell hD.places hiL 1 (by omega)
      have p2 := place_cell hD.places hiL 2 (by omega)
      have p3 := place_cell hD.places hiL 3 (by omega)
      have q0 := place_cell hD.places hhL 0 (by omega)
      have q1 := place_cell hD.places hhL 1 (by omega)
      have q2 := place_cell hD.places hhL 2 (by omega)
      have q3 := place_cell hD.places hhL 3 (by omega)
      have g0 := hD.places.frozen (ho * 4)
      have g1 := hD.places.frozen (ho * 4 + 1)
      have g2 := hD.places.frozen (ho * 4 + 2)
      have g3 := hD.places.frozen (ho * 4 + 3)
      rw [HPI.out.1] at p0 p1 p2 p3
      rw [HPI.out.2] at q0 q1 q2 q3
      simp only [encE, Nat.add_zero, List.getElem?_cons_zero, List.getElem?_cons_succ] at p0 p1 p2 p3 q0 q1 q2 q3
      have hlt2 := hD.blk.lt
      have hplt2 := hD.places.lt
      have HLP := Hidden.mk hloop
      have HDD := Hidden.mk hD
      clear hm3 HD hD hloop
      go_wp2_with fail
      refine (hfar1 _ hc1).mono ?_
      clear hfar1
      rintro e w' ⟨rfl, rfl⟩
      go_wp2_with fail
      refine (hfar2 _ hc1).mono ?_
      clear hfar2
      rintro e w' ⟨rfl, rfl⟩
      rcases Nat.lt_or_ge (far L'.length (homeF seed b (e1, e2)) i) (far L'.length ho i) with hcmp | hcmp
      · have hD2 := HLP.out.1 hcmp
        have HD2 := Hidden.mk hD2
        clear hD2
        go_wp2_with fail
        refine (hnext _ hc1).mono ?_
        rintro e w' ⟨rfl, rfl⟩
        go_wp2_with fail
        go_roundw
        case rel => exact ⟨L', ho, nx L'.length i, rfl, rfl, HLL.out, HD2.out⟩
        case measure => simp only [intOf, Int.toNat_natCast]; have := HLP.out.2.2; rw [← HLL.out]; omega
      · have hD2 := HLP.out.2.1 hcmp
        have HD2 := Hidden.mk hD2
        have hc12 : (((((w3.setCell ⟨pb, ho * 4, none⟩ (.int .u8 e1)).setCell ⟨pb, ho * 4 + 1, none⟩ (.int .u64 e2)).setCell ⟨pb, ho * 4 + 2, none⟩ (.int .u64 ev)).setCell ⟨pb, ho * 4 + 3, none⟩ (.bool true)).drew).cell? ⟨tb, 1, none⟩ = some (.slice (some ⟨pb, 0, none⟩) L'.length L'.length) := by
          have := hD2.blk.cell 1
          rw [List.length_set] at this; exact this
        have hnx := hnext _ hc12
        clear hD2 hc12
        go_wp2_with fail
        refine wp_tail 13 (by kernel_rfl) (by kernel_rfl) ?_
        simp only [List.take_succ_cons, List.take_zero, List.drop_succ_cons, List.drop_zero]
        repeat still_step
        refine wpStill_nil ?_
        go_wp2_with fail
        refine hnx.mono ?_
        clear hnx hnext hc1
        rintro e w' ⟨rfl, rfl⟩
        go_wp2_with fail
        go_roundw
        case rel => exact ⟨_, i, nx L'.length i, rfl, rfl, by rw [List.length_set]; exact HLL.out, HD2.out.next (Mod.refl [] _).drew⟩
        case measure => simp only [intOf, Int.toNat_natCast]; have := HLP.out.2.2; rw [← HLL.out]; omega
    | none =>
      rw [hpi] at p0 p1 p3
      simp only [encE, Nat.add_zero, List.getElem?_cons_zero, List.getElem?_cons_succ] at p0 p1 p3
      have q0 := place_cell hD.places hhL 0 (by omega)
      have q1 := place_cell hD.places hhL 1 (by omega)
      have q2 := place_cell hD.places hhL 2 (by omega)
      have q3 := place_cell hD.places hhL 3 (by omega)
      have g0 := hD.places.frozen (ho * 4)
      have g1 := hD.places.frozen (ho * 4 + 1)
      have g2 := hD.places.frozen (ho * 4 + 2)
      have g3 := hD.places.frozen (ho * 4 + 3)
      rw [heh] at q0 q1 q2 q3
      simp only [encE, Nat.add_zero, List.getElem?_cons_zero, List.getElem?_cons_succ] at q0 q1 q2 q3
      have hf3 := hD.blk.frozen 3
      have hplt2 := hD.places.lt
      obtain ⟨hinv, hperm⟩ := hD.inv.done hpi
      have hln := HZ.out.2.2.2.1
      generalize hl' : dropL l (k1, k2) = l' at *
      have hc3' : wr.cell? ⟨tb, 3, none⟩ = some (.int .i64 ((l'.length : Int) + 1)) := by rw [hc3, hln]; rfl
      have hkeys : ∀ e ∈ ents (L'.set ho none), KeyOK e.1 := by
        intro e' he'
        obtain ⟨p, hp⟩ := mem_ents.1 he'
        rw [pl_set _ hhL] at hp
        split at hp
        · cases hp
        · exact hD.keys e' (mem_ents.2 ⟨p, hp⟩)
      have hT : TabIn (((((wr.setCell ⟨pb, ho * 4, none⟩ (.int .u8 0)).setCell ⟨pb, ho * 4 + 1, none⟩ (.int .u64 0)).setCell ⟨pb, ho * 4 + 2, none⟩ (.int .u64 0)).setCell ⟨pb, ho * 4 + 3, none⟩ (.bool false)).setCell ⟨tb, 3, none⟩ (.int .i64 l'.length)) tb mb pb b seed (L'.set ho none) l'.length ((d : Int) + 1) := by
        refine ⟨?_, (places_set hD.places hhL none rfl).far (p := ⟨tb, 3, none⟩) (Ne.symm hne) _, by rw [List.length_set]; exact hD.len, hb3, hb40, hinv, hkeys⟩
        rw [List.length_set]
        exact ((((hD.blk.far (p := ⟨pb, ho * 4, none⟩) hne _).far (p := ⟨pb, ho * 4 + 1, none⟩) hne _).far (p := ⟨pb, ho * 4 + 2, none⟩) hne _).far (p := ⟨pb, ho * 4 + 3, none⟩) hne _).set 3 _
      have hMM : Mod [tb, pb] w (((((wr.setCell ⟨pb, ho * 4, none⟩ (.int .u8 0)).setCell ⟨pb, ho * 4 + 1, none⟩ (.int .u64 0)).setCell ⟨pb, ho * 4 + 2, none⟩ (.int .u64 0)).setCell ⟨pb, ho * 4 + 3, none⟩ (.bool false)).setCell ⟨tb, 3, none⟩ (.int .i64 l'.length)) :=
        ((((hD.mod.set (.inl (by simp)) _).set (.inl (by simp)) _).set (.inl (by simp)) _).set (.inl (by simp)) _).set (.inl (by simp)) _
      have HT := Hidden.mk hT
      have HM := Hidden.mk hMM
      have HP := Hidden.mk hperm
      have hroom := H.out.room
      have hsmall := H.out.small
      have HLN : Hidden (L'.length = L.length ∧ l.length = l'.length + 1 ∧ dropL l (k1, k2) = l' ∧ L'.length = 2 ^ b) := ⟨hL', hln, hl', hD.len⟩
      rw [hln] at hroom hsmall
      rw [← hL'] at hroom hsmall
      clear hc3 hinv hperm hkeys hT hMM hD heh HD hpi hL' hln hl'
      by_cases h8 : 8 < L'.length
      · have h8' : decide ((8 : Int) < (L'.length : Int)) = true := by simp; omega
        have hb4 : 4 ≤ b := by
          rcases Nat.lt_or_ge b 4 with hb | hb
          · have : b = 3 := by omega
            subst this
            have := HLN.out.2.2.2; omega
          · exact hb
        by_cases hs : 8 * l'.length < L'.length
        · have hs' : decide ((8 : Int) * (l'.length : Int) < (L'.length : Int)) = true := by simp; omega
          obtain ⟨b', rfl⟩ : ∃ q, b = q + 1 := ⟨b - 1, by omega⟩
          obtain ⟨N', hN'⟩ : ∃ q, q = 2 ^ b' := ⟨_, rfl⟩
          have hNN : L'.length = 2 * N' := by rw [HLN.out.2.2.2, Nat.pow_succ, hN']; omega
          have HNN : Hidden (N' = 2 ^ b' ∧ (ents (L'.set ho none)).length < N' ∧ (b' = 3 ∨ N' ≤ 8 * l'.length) ∧ 2 * l'.length ≤ N') := by
            refine ⟨hN', by rw [HP.out.length_eq]; omega, ?_, by omega⟩
            rcases hsmall with h | h
            · left; omega
            · rcases Nat.lt_or_ge b' 4 with hb | hb
              · left; omega
              · right
                have : 2 ^ 4 ≤ N' := by rw [hN']; exact Nat.pow_le_pow_right (by omega) hb
                omega
          have hdiv : (L'.length : Int) / 2 = (N' : Int) := by omega
          have HDV := Hidden.mk hdiv
          clear hdiv hN' hNN hroom hsmall
          go_wp2_with fail
          go_quiet (fail)
          go_wp2_with fail
          rw [HDV.out]
          refine (rehash_any tb mb pb (b' + 1) l'.length b' N' seed ((d : Int) + 1) _ _ (HT.out.mod ((Mod.refl [] _).drewN _) (by simp) (by simp)) (by omega) (by omega) HNN.out.1 HNN.out.2.1).mono ?_
          rintro e w5 ⟨rfl, pb', L5, ht5, hpe5, hm5, hpb5⟩
          have HR : Hidden (TabAt w5 tb mb [tb, pb'] b' ((d : Int) + 1) l' ∧ Mod [tb, pb] w w5 ∧ w.heap.size ≤ pb') := by
            refine ⟨⟨pb', seed, L5, rfl, ht5, hpe5.trans HP.out, ?_, ?_⟩, (HM.out.drewN _).trans hm5 (by simp), Nat.le_trans HM.out.size hpb5⟩
            · rw [ht5.len, ← HNN.out.1]; exact HNN.out.2.2.2
            · rw [ht5.len, ← HNN.out.1]; exact HNN.out.2.2.1
          clear ht5 hpe5 hm5 hpb5
          go_wp2_with fail
          go_ret
          rw [HLN.out.2.2.1]
          refine ⟨rfl, _, _, _, HR.out.1, HR.out.2.1, ?_, hpr.out.1, hpr.out.2⟩
          intro q hq; simp only [List.mem_cons, List.not_mem_nil, or_false] at hq ⊢
          rcases hq with rfl | rfl
          · exact .inl (.inl rfl)
          · exact .inr HR.out.2.2
        · have hs' : decide ((8 : Int) * (l'.length : Int) < (L'.length : Int)) = false := by simp; omega
          go_wp2_with fail
          go_quiet (fail)
          go_wp2_with fail
          go_ret
          rw [HLN.out.2.2.1]
          refine ⟨rfl, [tb, pb], b, (d : Int) + 1, ⟨pb, seed, _, rfl, HT.out.mod ((Mod.refl [] _).drewN _) (by simp) (by simp), HP.out, by rw [List.length_set]; omega, by rw [List.length_set]; right; omega⟩, HM.out.drewN _, fun q hq => .inl hq, hpr.out.1, hpr.out.2⟩
      · have h8' : decide ((8 : Int) < (L'.length : Int)) = false := by simp; omega
        have hb' : b = 3 := by
          rcases Nat.lt_or_ge b 4 with hb | hb
          · omega
          · have : 2 ^ 4 ≤ L'.length := by rw [HLN.out.2.2.2]; exact Nat.pow_le_pow_right (by omega) hb
            omega
        have HB3 := Hidden.mk hb'
        clear hb'
        go_wp2_with fail
        go_quiet (fail)
        go_wp2_with fail
        go_ret
        rw [HLN.out.2.2.1]
        refine ⟨rfl, [tb, pb], b, (d : Int) + 1, ⟨pb, seed, _, rfl, HT.out.mod ((Mod.refl [] _).drewN _) (by simp) (by simp), HP.out, by rw [List.length_set]; omega, .inl HB3.out⟩, HM.out.drewN _, fun q hq => .inl hq, hpr.out.1, hpr.out.2⟩
set_option maxRecDepth 100000 in
set_option maxHeartbeats 1000000 in
theorem hash_drop_no {w : World} {tb mb pb b : Nat} {seed pr : Int} {L : HT} {l : List (HK × Int)} (k : HK) (hk : KeyOK k) (h : TabS w tb mb pb b seed pr L l) (hl : lk l k = none) :
    Calls Try.prog 81 #[.pointer (some ⟨tb, 0, none⟩), keyV k] w fun e w' => e = .returned (.bool false) ∧
      ∃ pr', TabAt w' tb mb [tb, pb] b pr' l ∧ Mod [tb, pb] w w' ∧ 1 ≤ pr' ∧ pr' ≤ ((2 ^ b : Nat) : Int) := by
  obtain ⟨z, hz, hfree⟩ := h.free
  have hlt := h.tab.blk.lt
  have hKb : Blk (w.alloc (.cells #[.int .u8 k.1, .int .u64 k.2] 106)) w.heap.size 106 #[.int .u8 k.1, .int .u64 k.2] := Blk.new _ _ _
  have hf := find_any tb mb pb b l.length seed pr L k (w.alloc (.cells #[.int .u8 k.1, .int .u64 k.2] 106)) (h.tab.mod ((Mod.refl [] w).alloc _) (by simp) (by simp)) hk hz hfree
  have H : Hidden (TabS w tb mb pb b seed pr L l ∧ lk l k = none) := ⟨h, hl⟩
  have hM : Mod [tb, pb] w (w.alloc (.cells #[.int .u8 k.1, .int .u64 k.2] 106)) := (Mod.refl _ w).alloc _
  clear h hz hfree hl
  obtain ⟨k1, k2⟩ := k
  unfold keyV at hf ⊢
  simp only at hKb hf hM
  go_enter Try.func81, Try.ntmps81
  go_wp2_with fail
  refine hf.mono ?_
  clear hf
  rintro e w2 ⟨d, hd, rfl, ht2, hmod3⟩
  have hst := stop_lk ht2.inv H.out.1.perm hd
  have hdl := hd.lt
  rcases hst with ⟨hp, hl⟩ | ⟨v', hp, hl⟩
  · have hpr : Hidden (1 ≤ (d : Int) + 1 ∧ (d : Int) + 1 ≤ ((2 ^ b : Nat) : Int)) := ⟨by omega, by rw [← ht2.len]; omega⟩
    have HR : Hidden (TabAt w2 tb mb [tb, pb] b ((d : Int) + 1) l ∧ Mod [tb, pb] w w2) := ⟨⟨pb, seed, L, rfl, ht2, H.out.1.perm, H.out.1.room, H.out.1.small⟩, hM.trans hmod3 (by simp)⟩
    rw [hp]
    simp only [Option.isSome_none]
    clear hp hl hd hmod3 hKb hM ht2
    go_wp2_with fail
    go_ret
    exact ⟨rfl, _, HR.out.1, HR.out.2, hpr.out.1, hpr.out.2⟩
  · rw [H.out.2] at hl; cases hl
theorem hash_drop {w : World} {tb mb b : Nat} {F : List Nat} {pr : Int} {l : List (HK × Int)} (k : HK) (hk : KeyOK k) (h : TabAt w tb mb F b pr l) :
    Calls Try.prog 81 #[.pointer (some ⟨tb, 0, none⟩), keyV k] w fun e w' => e = .returned (.bool (lk l k).isSome) ∧
      ∃ F' b' pr', TabAt w' tb mb F' b' pr' (dropL l k) ∧ Mod F w w' ∧ (∀ q ∈ F', q ∈ F ∨ w.heap.size ≤ q) ∧ 1 ≤ pr' ∧ pr' ≤ ((2 ^ b : Nat) : Int) := by
  have hnd := h.nodup
  obtain ⟨pb, seed, L, rfl, h⟩ := h
  cases hl : lk l k with
  | none =>
    refine (hash_drop_no k hk h hl).mono ?_
    rintro e w' ⟨rfl, pr', h1, h2, h3, h4⟩
    refine ⟨rfl, [tb, pb], b, pr', ?_, h2, fun q hq => .inl hq, h3, h4⟩
    have : dropL l k = l := filter_absent hl
    rw [this]; exact h1
  | some v => exact hash_drop_yes k v hk h hnd hl
end Go.Proofs.Ytfioekkegihkoaa
