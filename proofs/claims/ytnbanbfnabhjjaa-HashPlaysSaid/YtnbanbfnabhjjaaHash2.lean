/- The hash table in memory; finding a key. -/
import Derived.Test.YtnbanbfnabhjjaaHash1
namespace Go.Proofs.Ytnbanbfnabhjjaa
open Go.RowKit
set_option linter.unusedVariables false
set_option linter.unusedSimpArgs false

abbrev HK := Int × Int
abbrev HT := Tb HK Int
structure KeyOK (k : HK) : Prop where
  l0 : 0 ≤ k.1
  l1 : k.1 ≤ 255
  p : U64 k.2
def encE (o : Option (HK × Int)) : List Value := match o with
  | some e => [.int .u8 e.1.1, .int .u64 e.1.2, .int .u64 e.2, .bool true]
  | none => [.int .u8 0, .int .u64 0, .int .u64 0, .bool false]
theorem encE_len (o : Option (HK × Int)) : (encE o).length = 4 := by cases o <;> rfl
def keyV (k : HK) : Value := .agg #[.int .u8 k.1, .int .u64 k.2]
def tabCells (mb pb N : Nat) (seed : Int) (n : Nat) (pr : Int) : Array Value := #[.pointer (some ⟨mb, 0, none⟩), .slice (some ⟨pb, 0, none⟩) N N, .int .u64 seed, .int .i64 n, .int .i64 pr]
/-- The table's two blocks: its fields at tb, its places at pb. -/
structure TabIn (w : World) (tb mb pb b : Nat) (seed : Int) (L : HT) (n : Nat) (pr : Int) : Prop where
  blk : Blk w tb 112 (tabCells mb pb L.length seed n pr)
  places : Blk w pb 123 (L.flatMap encE).toArray
  len : L.length = 2 ^ b
  b3 : 3 ≤ b
  b40 : b ≤ 40
  inv : HInv (homeF seed b) L
  keys : ∀ e ∈ ents L, KeyOK e.1
section
variable {w : World} {tb mb pb b n : Nat} {seed pr : Int} {L : HT}
theorem TabIn.ne (h : TabIn w tb mb pb b seed L n pr) : tb ≠ pb := h.blk.ne h.places (by decide)
theorem TabIn.N2 (h : TabIn w tb mb pb b seed L n pr) : 8 ≤ L.length ∧ L.length ≤ 1099511627776 := by
  rw [h.len]; exact ⟨Nat.le_trans (by decide) (Nat.pow_le_pow_right (by omega) h.b3), Nat.le_trans (Nat.pow_le_pow_right (by omega) h.b40) (by decide)⟩
theorem TabIn.mod {w' : World} (h : TabIn w tb mb pb b seed L n pr) {S : List Nat} (hm : Mod S w w') (h1 : tb ∉ S) (h2 : pb ∉ S) : TabIn w' tb mb pb b seed L n pr :=
  ⟨h.blk.mod hm h1, h.places.mod hm h2, h.len, h.b3, h.b40, h.inv, h.keys⟩
theorem place_cell {pb : Nat} {L : HT} (h : Blk w pb 123 (L.flatMap encE).toArray) {i : Nat} (hi : i < L.length) (j : Nat) (hj : j < 4) : w.cell? ⟨pb, i * 4 + j, none⟩ = (encE (pl L i))[j]? := by
  rw [h.cell]
  have := flat_get encE 4 encE_len L i j hj
  simp only [List.getElem?_toArray]
  rw [this, pl_get hi]; rfl
end
theorem key_eq (a b c d : Int) (w : World) : (Op.equalIn 10000 64 (.agg #[.int .u8 a, .int .u64 b]) (.agg #[.int .u8 c, .int .u64 d])).run Try.prog w = .ok (a == c && b == d) w := by
  have hS : Try.prog.underlying 64 = some (.struct (Try.prog.fieldsOf 64)) := by kernel_rfl
  have hp : Try.prog.stoodInHeld 64 = false := by kernel_rfl
  rw [show (10000 : Nat) = 9999 + 1 from rfl, run_equalIn_agg w 9999 64 _ _ hS hp]
  simp only [Program.fieldsOf, Try.underlying64]
  go_simp
  by_cases h1 : a = c <;> by_cases h2 : b = d <;> simp [h1, h2]
theorem key_guard (op : BinOp) (A B : Operand) (x y : Array Value) (w : World) : (eqGuard op 64 A B (.agg x) (.agg y)).run Try.prog w = .ok () w := run_eqGuard_agg w op _ A B x y (by kernel_rfl)
theorem key_ne (a b c d : Int) (h : ((a, b) : HK) ≠ (c, d)) (w : World) : (Op.equalIn 10000 64 (.agg #[.int .u8 a, .int .u64 b]) (.agg #[.int .u8 c, .int .u64 d])).run Try.prog w = .ok false w := by
  rw [key_eq]; congr 1
  simp only [Bool.and_eq_false_iff, beq_eq_false_iff_ne]
  by_cases e : a = c
  · right; rintro rfl; exact h (by rw [e])
  · exact .inl e

set_option maxRecDepth 100000 in
set_option maxHeartbeats 2000000 in
theorem find_any (tb mb pb b n : Nat) (seed pr : Int) (L : HT) (k : HK) (w : World) (h : TabIn w tb mb pb b seed L n pr) (hk : KeyOK k) {z : Nat} (hz : z < L.length) (hfree : pl L z = none) :
    Calls Try.prog 82 #[.pointer (some ⟨tb, 0, none⟩), keyV k] w fun e w' => ∃ d : Nat, Stop (homeF seed b) L k d ∧ e = .returned (.tuple #[.int .i64 (up L.length (homeF seed b k) d), .bool (pl L (up L.length (homeF seed b k) d)).isSome]) ∧
      TabIn w' tb mb pb b seed L n ((d : Int) + 1) ∧ Mod [tb] w w' := by
  obtain ⟨d, hd⟩ := stop_exists h.inv.home hz hfree k
  have hN := h.N2
  obtain ⟨l, p⟩ := k
  unfold keyV
  have hb0 := h.blk
  have hp0 := h.places
  have hlt := hb0.lt
  have hplt := hp0.lt
  have hne := h.ne
  have c4 : w.cell? ⟨tb, 4, none⟩ = some (.int .i64 pr) := hb0.cell 4
  have f4 := hb0.frozen 4
  have hW : Blk ((w.setCell ⟨tb, 4, none⟩ (.int .i64 1)).alloc (.cells #[.int .u8 l, .int .u64 p] 64)) tb 112 (tabCells mb pb L.length seed n 1) := (hb0.set 4 _).alloc _
  have hP : Blk ((w.setCell ⟨tb, 4, none⟩ (.int .i64 1)).alloc (.cells #[.int .u8 l, .int .u64 p] 64)) pb 123 (L.flatMap encE).toArray := (hp0.far (p := ⟨tb, 4, none⟩) (Ne.symm hne) _).alloc _
  have hK : Blk ((w.setCell ⟨tb, 4, none⟩ (.int .i64 1)).alloc (.cells #[.int .u8 l, .int .u64 p] 64)) w.heap.size 64 #[.int .u8 l, .int .u64 p] := Blk.new' (by simp [World.setCell]) _ _
  have hM : Mod [tb] w ((w.setCell ⟨tb, 4, none⟩ (.int .i64 1)).alloc (.cells #[.int .u8 l, .int .u64 p] 64)) := ((Mod.refl _ w).set (.inl (by simp)) _).alloc _
  have hH : Hidden (TabIn w tb mb pb b seed L n pr) := ⟨h⟩
  have hD : Hidden (Stop (homeF seed b) L (l, p) d) := ⟨hd⟩
  clear h hd hfree hb0 hp0
  go_enter Try.func82, Try.ntmps82
  go_wp2_with fail
  refine (home_any tb pb seed l p b L.length _ (by have := hH.out.b3; omega) hH.out.b40 hH.out.len hk.p hk.l0 hk.l1 (hW.cell 1) (hW.cell 2) hW.lt).mono ?_
  rintro e w1 ⟨rfl, hm1⟩
  have hW1 := hW.mod hm1 (by simp)
  have hP1 := hP.mod hm1 (by simp)
  have hK1 := hK.mod hm1 (by simp)
  have hM1 := hM.trans hm1 (by simp)
  clear hW hP hK hM hm1 c4 f4
  go_wp2_with fail
  go_loopw [6] (fun i wr => ∃ j : Nat, j ≤ d ∧ i = .int .i64 (up L.length (homeF seed b (l, p)) j) ∧ Blk wr tb 112 (tabCells mb pb L.length seed n ((j : Int) + 1)) ∧ Blk wr pb 123 (L.flatMap encE).toArray ∧
      Blk wr w.heap.size 64 #[.int .u8 l, .int .u64 p] ∧ Mod [tb] w wr) (fun i _ => d - far L.length (homeF seed b (l, p)) (intOf i).toNat)
  case atStart => exact ⟨0, by omega, by have := up_spec (hH.out.inv.home (l, p)) (d := 0) (by omega); have := hH.out.inv.home (l, p); rw [show up L.length (homeF seed b (l, p)) 0 = homeF seed b (l, p) from by omega], hW1, hP1, hK1, hM1⟩
  case round =>
    clear hW1 hP1 hK1 hM1
    obtain ⟨j, hj, rfl, hW1, hP1, hK1, hM1⟩ := hrel
    have hu := up_spec (hH.out.inv.home (l, p)) (d := j) (by have := hD.out.lt; omega)
    have hud := hD.out.lt
    have c1 : wr.cell? ⟨tb, 1, none⟩ = some (.slice (some ⟨pb, 0, none⟩) L.length L.length) := hW1.cell 1
    have c4 : wr.cell? ⟨tb, 4, none⟩ = some (.int .i64 ((j : Int) + 1)) := hW1.cell 4
    have f4 := hW1.frozen 4
    have k0 : wr.cell? ⟨w.heap.size, 0, none⟩ = some (.int .u8 l) := hK1.cell 0
    have k1 : wr.cell? ⟨w.heap.size, 1, none⟩ = some (.int .u64 p) := hK1.cell 1
    have p0 := place_cell hP1 hu.1 0 (by omega)
    have p1 := place_cell hP1 hu.1 1 (by omega)
    have p3 := place_cell hP1 hu.1 3 (by omega)
    have hnx : j + 1 < L.length → nx L.length (up L.length (homeF seed b (l, p)) j) = up L.length (homeF seed b (l, p)) (j + 1) := fun hh => nx_up (hH.out.inv.home (l, p)) hh
    have hnext := fun m => next_any tb pb (up L.length (homeF seed b (l, p)) j) L.length b (wr.drewN m) hH.out.b40 hH.out.len hu.1
    have HX : Hidden (tb ≠ pb ∧ tb ≠ w.heap.size ∧ (∀ q, Blk (wr.setCell ⟨tb, 4, none⟩ (.int .i64 q)) tb 112 (tabCells mb pb L.length seed n q) ∧ Blk (wr.setCell ⟨tb, 4, none⟩ (.int .i64 q)) pb 123 (L.flatMap encE).toArray ∧
      Blk (wr.setCell ⟨tb, 4, none⟩ (.int .i64 q)) w.heap.size 64 #[.int .u8 l, .int .u64 p] ∧ Mod [tb] w (wr.setCell ⟨tb, 4, none⟩ (.int .i64 q)))) := ⟨hne, by omega, fun q => ⟨hW1.set 4 _, hP1.far (p := ⟨tb, 4, none⟩) (Ne.symm hne) _, hK1.far (p := ⟨tb, 4, none⟩) (by simp; omega) _, hM1.set (.inl (by simp)) _⟩⟩
    have HT1 : Hidden (TabIn wr tb mb pb b seed L n ((j : Int) + 1)) := ⟨⟨hW1, hP1, hH.out.len, hH.out.b3, hH.out.b40, hH.out.inv, hH.out.keys⟩⟩
    have HM1 : Hidden (Mod [tb] w wr) := ⟨hM1⟩
    have hfj : far L.length (homeF seed b (l, p)) (up L.length (homeF seed b (l, p)) j) = j := far_up (hH.out.inv.home (l, p)) (by omega)
    have hfj1 : j + 1 < L.length → far L.length (homeF seed b (l, p)) (up L.length (homeF seed b (l, p)) (j + 1)) = j + 1 := fun hh => far_up (hH.out.inv.home (l, p)) hh
    have HF : Hidden (far L.length (homeF seed b (l, p)) (up L.length (homeF seed b (l, p)) j) = j ∧ (j + 1 < L.length → far L.length (homeF seed b (l, p)) (up L.length (homeF seed b (l, p)) (j + 1)) = j + 1)) := ⟨hfj, hfj1⟩
    clear hW1 hP1 hK1 hM1 hfj hfj1
    rcases Nat.lt_or_ge j d with hjd | hjd
    · obtain ⟨e, he, hek⟩ := hD.out.on j hjd
      obtain ⟨⟨e1, e2⟩, ev⟩ := e
      rw [he] at p0 p1 p3
      simp only [encE, Nat.add_zero, List.getElem?_cons_zero, List.getElem?_cons_succ] at p0 p1 p3
      have hn' := hnx (by omega)
      rw [hn'] at hnext
      have hkn := key_ne _ _ _ _ hek
      have hkg := fun op A B x y w => key_guard op A B x y w
      clear hn' hnx he hek
      generalize hU : up L.length (homeF seed b (l, p)) j = u at *
      have HU : Hidden (up L.length (homeF seed b (l, p)) j = u) := ⟨hU⟩
      clear hU
      go_wp2_with fail
      go_quiet (fail)
      go_wp2_with (go_at_call 84; refine (hnext _ c1).mono ?_; rintro e w' ⟨rfl, rfl⟩)
      go_roundw
      case rel =>
        obtain ⟨q1, q2, q3, q4⟩ := HX.out.2.2 ((j : Int) + 1 + 1)
        have e1 : ((j : Int) + 1 + 1) = ((j + 1 : Nat) : Int) + 1 := by omega
        exact ⟨j + 1, by omega, rfl, e1 ▸ q1, q2, q3, q4.drewN _⟩
      case measure =>
        simp only [intOf, Int.toNat_natCast]
        have h1 := HF.out.1
        have h2 := HF.out.2 (by omega)
        omega
    · obtain rfl : j = d := by omega
      have hat := hD.out.at_
      cases hpl : pl L (up L.length (homeF seed b (l, p)) j) with
      | none =>
        rw [hpl] at p0 p1 p3
        simp only [encE, Nat.add_zero, List.getElem?_cons_zero, List.getElem?_cons_succ] at p0 p1 p3
        have HP : Hidden (pl L (up L.length (homeF seed b (l, p)) j) = none) := ⟨hpl⟩
        clear hat hpl hnx
        generalize hU : up L.length (homeF seed b (l, p)) j = u at *
        have HU : Hidden (up L.length (homeF seed b (l, p)) j = u) := ⟨hU⟩
        clear hU
        go_wp2_with fail
        go_quiet (fail)
        go_wp2_with fail
        go_quiet (fail)
        go_wp2_with fail
        go_ret2
        refine ⟨j, hD.out, ?_, HT1.out.mod (((Mod.refl [] wr).drewN _).drewN _) (by simp) (by simp), (HM1.out.drewN _).drewN _⟩
        rw [HU.out, HP.out]; rfl
      | some e =>
        have hke := hat e hpl
        obtain ⟨⟨e1, e2⟩, ev⟩ := e
        simp only at hke
        injection hke with hk1 hk2
        subst hk1 hk2
        rw [hpl] at p0 p1 p3
        simp only [encE, Nat.add_zero, List.getElem?_cons_zero, List.getElem?_cons_succ] at p0 p1 p3
        have HP : Hidden (pl L (up L.length (homeF seed b (e1, e2)) j) = some ((e1, e2), ev)) := ⟨hpl⟩
        have hkn : ∀ w, (Op.equalIn 10000 64 (.agg #[.int .u8 e1, .int .u64 e2]) (.agg #[.int .u8 e1, .int .u64 e2])).run Try.prog w = .ok true w := fun w => by rw [key_eq]; simp
        have hkg := fun op A B x y w => key_guard op A B x y w
        clear hat hpl hnx
        generalize hU : up L.length (homeF seed b (e1, e2)) j = u at *
        have HU : Hidden (up L.length (homeF seed b (e1, e2)) j = u) := ⟨hU⟩
        clear hU
        go_wp2_with fail
        go_quiet (fail)
        go_wp2_with fail
        go_quiet (fail)
        go_wp2_with fail
        go_ret2
        refine ⟨j, hD.out, ?_, HT1.out.mod (((Mod.refl [] wr).drewN _).drewN _) (by simp) (by simp), (HM1.out.drewN _).drewN _⟩
        rw [HU.out, HP.out]; rfl
end Go.Proofs.Ytnbanbfnabhjjaa
