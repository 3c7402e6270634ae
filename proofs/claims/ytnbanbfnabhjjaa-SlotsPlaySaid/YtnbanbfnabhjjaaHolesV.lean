/- The walk of HashHoles, whole. -/
import Derived.Test.YtnbanbfnabhjjaaHolesW
import Derived.Test.YtnbanbfnabhjjaaArgs
namespace Go.Proofs.Ytnbanbfnabhjjaa
open Go.RowKit
set_option linter.unusedVariables false
set_option linter.unusedSimpArgs false

theorem bool_info : (Try.prog.info? 4).map (fun i => (i.zero, i.size, i.bytes)) = some (some (.bool false), 1, 1) := by kernel_rfl
theorem make_bools (n : Nat) (hn : n ≤ 1099511627776) (W : World) : (Instr.makeSlice 46 (.int .i64 (n : Int)) (.int .i64 (n : Int))).run Try.prog W =
    .ok (.slice (some ⟨W.heap.size, 0, none⟩) n n) (W.alloc (.cells ((List.replicate n false).map Value.bool).toArray 4)) := by
  obtain ⟨i, hi, hz, hsize, hby⟩ := info_parts bool_info
  have hr := run_make (P := Try.prog) W 46 4 i _ (by kernel_rfl) hi hz .i64 .i64 n n (by omega) (Int.le_refl _) (by rw [hby]; omega) (by omega)
  simp only [Int.toNat_natCast] at hr
  rw [hr, hsize]
  have : (madeCells (Value.bool false).cells (n * 1)) = ((List.replicate n false).map Value.bool).toArray := by
    apply Array.ext'
    rw [show (Value.bool false).cells = #[.bool false] from rfl, Nat.mul_one, toList_madeCells_one]; simp
  rw [this]
def boolCells (l : List Bool) : Array Value := (l.map Value.bool).toArray
theorem boolCells_get (l : List Bool) (i : Nat) (h : i < l.length) : (boolCells l)[i]? = some (.bool (l.getD i false)) := by simp [boolCells, h]
theorem boolCells_set (l : List Bool) (i : Nat) (b : Bool) : (boolCells l).setIfInBounds i (.bool b) = boolCells (l.set i b) := by
  unfold boolCells; rw [toArray_set]; congr 1
  rw [List.map_set]
/-- What the table tells of the keys in a row. -/
def Tells (l : List (HK × Int)) (lv from_ step : Int) (K : Nat) (D : Nat → Bool) : Prop := ∀ j, j < K → lk l (keyH lv from_ step j) = if D j then none else some ((j : Int) * 3)

set_option maxRecDepth 100000 in
set_option maxHeartbeats 2000000 in
theorem hashHoles_walk (a0 a1 a2 a3 : Int) (a4 : Option Addr) (len4 cap4 : Nat) (z4 : List Int) (w0 : (Lit.int .u64 a0).wf = true) (w1 : (Lit.int .u64 a1).wf = true) (w2 : (Lit.int .u64 a2).wf = true) (w3 : (Lit.int .u8 a3).wf = true)
    (w : World) (w4 : IntRow .u8 w a4 len4 cap4 z4) (y4 : len4 * 1 ≤ 140737488351232) :
    Calls Try.prog 6 #[.int .u64 a0, .int .u64 a1, .int .u64 a2, .int .u8 a3, .slice a4 len4 cap4] w fun e w' => e = .returned (.bool true) ∧ Below w.heap.size w w' := by
  have b3 := bounds_u8 w3
  have b2 := bounds_u64 w2
  have hso := or_odd a2 (by omega) (by omega)
  have hle4 := w4.le
  go_enter Try.func6, Try.ntmps6
  go_wp2_with fail
  refine (awake5 w w (Below.refl _ _)).mono ?_; rintro e w1 ⟨rfl, hB⟩
  go_wp2_with fail
  refine (hm_new_nil a0 w _ hB).mono ?_; rintro e w2 ⟨tb, rfl, hH⟩
  obtain ⟨st, hst⟩ : ∃ st, bits .or .u64 a2 1 = st := ⟨_, rfl⟩
  rw [hst] at hso
  have HST := Hidden.mk hst
  obtain ⟨K, hK⟩ : ∃ K : Nat, 1 + a3 = (K : Int) := ⟨(1 + a3).toNat, by omega⟩
  have hK1 : 1 ≤ K := by omega
  have hK2 : K ≤ 256 := by omega
  have hmk := make_bools K (by omega)
  clear hst
  go_wp2_with fail
  rw [HST.out]
  have hX : Blk (w2.alloc (.cells (Array.replicate K (Value.bool false)) 4)) w2.heap.size 4 (boolCells (List.replicate K false)) := by
    have := Blk.new w2 4 (boolCells (List.replicate K false))
    unfold boolCells at this ⊢; simpa using this
  have hHx := hH.x (.cells (Array.replicate K (Value.bool false)) 4)
  generalize hxb : w2.heap.size = xb at *
  clear hmk hH hK hxb
  go_loopw [33] (fun iv wr => ∃ (i b : Nat) (pr : Int) (l : List (HK × Int)) (m : Mt), i ≤ K ∧ iv = .int .i64 i ∧ HMx w wr tb b pr l m xb ∧ Blk wr xb 4 (boolCells (List.replicate K false)) ∧ l.length ≤ i ∧ Tells l 7 a1 st K (fun j => decide (i ≤ j))) (fun iv _ => K - (intOf iv).toNat)
  case atStart => exact ⟨0, 3, 0, [], _, by omega, rfl, hHx, hX, by simp, fun j hj => by simp [lk]⟩
  case round =>
    clear hHx hX
    obtain ⟨i, b, pr, l, m, hi, rfl, hHx, hX, hll, hT⟩ := hrel
    by_cases hlt : i < K
    · have hput := hx_put (7, IntKind.u64.wrap (a1 + IntKind.u64.wrap ((i : Int) * st))) ((i : Int) * 3) (keyOK_wrap 7 _ (by decide) (by decide)) hHx (by omega)
      unfold keyV at hput
      have HT := Hidden.mk hT
      have HX := Hidden.mk hX
      clear hT hX hHx
      go_wp2_with fail
      refine hput.mono ?_
      clear hput
      rintro e w3 ⟨rfl, b', pr', hHx, hxx⟩
      have hX : Blk w3 xb 4 (boolCells (List.replicate K false)) := hxx.trans HX.out
      have hT2 : Tells (putL l (7, IntKind.u64.wrap (a1 + IntKind.u64.wrap ((i : Int) * st))) ((i : Int) * 3)) 7 a1 st K (fun j => decide (i + 1 ≤ j)) := by
        intro j hj
        rw [lk_put]
        by_cases hij : j = i
        · subst hij
          have e : keyH 7 a1 st j = (7, IntKind.u64.wrap (a1 + IntKind.u64.wrap ((j : Int) * st))) := rfl
          rw [if_pos e]; simp
        · have e : keyH 7 a1 st j ≠ (7, IntKind.u64.wrap (a1 + IntKind.u64.wrap ((i : Int) * st))) := fun h => hij (keyH_inj 7 7 a1 st hso.1 hso.2.1 j i (by omega) (by omega) (congrArg Prod.snd h))
          rw [if_neg e, HT.out j hj]
          have : decide (i ≤ j) = decide (i + 1 ≤ j) := by by_cases h : i ≤ j <;> simp [h] <;> omega
          simp only [this]
      have hl2 := putL_len l (7, IntKind.u64.wrap (a1 + IntKind.u64.wrap ((i : Int) * st))) ((i : Int) * 3)
      have HR := Hidden.mk (And.intro hHx (And.intro hX (And.intro hT2 hl2)))
      clear hHx hX hT2 hl2 hxx
      go_wp2_with fail
      go_roundw
      case rel => exact ⟨i + 1, _, _, _, _, by omega, by go_num, HR.out.1, HR.out.2.1, by have := HR.out.2.2.2; omega, HR.out.2.2.1⟩
      case measure => simp [intOf]; omega
    · obtain rfl : K = i := by omega
      have hT0 : Tells l 7 a1 st K (fun j => (List.replicate K false).getD j false) := by
        intro j hj; rw [hT j hj]
        show (if decide (K ≤ j) = true then none else some ((j : Int) * 3)) = if (List.replicate K false).getD j false = true then none else some ((j : Int) * 3)
        have h1 : decide (K ≤ j) = false := by simp; omega
        have h2 : (List.replicate K false).getD j false = false := by rw [List.getD_eq_getElem?_getD, List.getElem?_replicate]; split <;> rfl
        rw [h1, h2]
      clear hT
      go_wp2_with fail
      go_loopw [51] (fun iv wr => ∃ (i b : Nat) (pr : Int) (l : List (HK × Int)) (m : Mt) (Ds : List Bool), i ≤ len4 ∧ iv = .int .i64 i ∧ HMx w wr tb b pr l m xb ∧ Blk wr xb 4 (boolCells Ds) ∧ Ds.length = K ∧ Tells l 7 a1 st K (fun j => Ds.getD j false)) (fun iv _ => len4 - (intOf iv).toNat)
      case atStart => exact ⟨0, _, _, _, _, List.replicate K false, by omega, rfl, hHx, hX, by simp, hT0⟩
      case round =>
        clear hHx hX hT0 hll
        obtain ⟨i, b, pr, l, m, Ds, hi, rfl, hHx, hX, hDl, hT⟩ := hrel
        by_cases hgo : i < len4 ∧ i < 200
        · obtain ⟨h1, h2⟩ := hgo
          obtain ⟨ab, aoff, rfl, hab, hcs⟩ := w4.at_ (by omega)
          obtain ⟨hcell, hwf⟩ := hcs i h1
          generalize hgv : z4.getD i 0 = g at hcell hwf
          have hg := bounds_u8 hwf
          have hcell2 := (hHx.hm.below.cell (p := ⟨ab, aoff + i, none⟩) hab).trans hcell
          obtain ⟨at_, hat⟩ : ∃ q : Nat, g % (K : Int) = q := ⟨(g % (K : Int)).toNat, by have := Int.emod_nonneg g (show (K : Int) ≠ 0 by omega); omega⟩
          have hatK : at_ < K := by have := Int.emod_lt_of_pos g (show (0 : Int) < K by omega); omega
          have hdrop := hx_drop (7, IntKind.u64.wrap (a1 + IntKind.u64.wrap ((at_ : Int) * st))) (keyOK_wrap 7 _ (by decide) (by decide)) (hHx.mod ((Mod.refl [xb] wr).drew))
          unfold keyV at hdrop
          have hti := hT at_ hatK
          obtain ⟨dd, hdd⟩ : ∃ q : Bool, Ds.getD at_ false = q := ⟨_, rfl⟩
          simp only [hdd] at hti
          rw [show keyH 7 a1 st at_ = (7, IntKind.u64.wrap (a1 + IntKind.u64.wrap ((at_ : Int) * st))) from rfl] at hti
          have hisS : (lk l (7, IntKind.u64.wrap (a1 + IntKind.u64.wrap ((at_ : Int) * st)))).isSome = !dd := by rw [hti]; cases dd <;> rfl
          rw [hisS] at hdrop
          have hc : wr.drew.cell? ⟨xb, at_, none⟩ = some (.bool dd) := by rw [← hdd]; exact (hX.cell at_).trans (boolCells_get Ds at_ (by omega))
          have hdecl : ∀ W : World, W.heap[xb]? = wr.drew.heap[xb]? → Blk W xb 4 (boolCells Ds) := fun W hW => hW.trans hX
          have hset := boolCells_set Ds at_ true
          have hxlt := hX.lt
          have HT := Hidden.mk (And.intro hT (And.intro hDl (And.intro hgv (And.intro hat hdd))))
          have hwr : IntKind.u64.wrap (at_ : Int) = at_ := by rw [IntKind.wrap_u64]; omega
          have hT2 : Tells (dropL l (7, IntKind.u64.wrap (a1 + IntKind.u64.wrap ((at_ : Int) * st)))) 7 a1 st K (fun j => (Ds.set at_ true).getD j false) := by
            intro j hj
            rw [lk_drop]
            by_cases hij : j = at_
            · subst hij
              have e : keyH 7 a1 st j = (7, IntKind.u64.wrap (a1 + IntKind.u64.wrap ((j : Int) * st))) := rfl
              rw [if_pos e]
              have : (Ds.set j true).getD j false = true := by rw [List.getD_eq_getElem?_getD, List.getElem?_set]; simp [show j < Ds.length by omega]
              simp only [this, if_true]
            · have e : keyH 7 a1 st j ≠ (7, IntKind.u64.wrap (a1 + IntKind.u64.wrap ((at_ : Int) * st))) := fun h => hij (keyH_inj 7 7 a1 st hso.1 hso.2.1 j at_ (by omega) (by omega) (congrArg Prod.snd h))
              rw [if_neg e, HT.out.1 j hj]
              have : (Ds.set at_ true).getD j false = Ds.getD j false := by rw [List.getD_eq_getElem?_getD, List.getElem?_set_ne (Ne.symm hij), List.getD_eq_getElem?_getD]
              simp only [this]
          have HT2 := Hidden.mk (And.intro hT2 (show (Ds.set at_ true).length = K by rw [List.length_set]; exact hDl))
          have HS := Hidden.mk hset
          have HDC := Hidden.mk hdecl
          have HAT := Hidden.mk hat
          have hg0 := hg.1
          have hg1 := hg.2
          clear hT hT2 hset hdecl hX hHx hcs hcell hwf hti hisS hdd hDl hgv hat hg
          go_wp2_with fail
          rw [HAT.out]
          cases dd with
          | true =>
            go_region_with (go_at_call 39; refine hdrop.mono ?_; rintro e w3 ⟨rfl, b', pr', hHx, hxx⟩; have hX3 := HDC.out w3 hxx; have hc3 : w3.cell? ⟨xb, at_, none⟩ = some (.bool true) := by (rw [← HT.out.2.2.2.2]; exact (hX3.cell at_).trans (boolCells_get Ds at_ (by rw [HT.out.2.1]; exact hatK))))
            all_goals
              have hf3 := hX3.frozen at_
              have hxl3 := hX3.lt
              have HR := Hidden.mk (And.intro hHx hX3)
              clear hHx hX3 hxx hwr
              go_wp2_with fail
              go_roundw
              case rel => exact ⟨i + 1, _, _, _, _, Ds.set at_ true, by omega, by go_num, HR.out.1.mod ((Mod.refl _ _).set (.inl (by simp)) _), HS.out ▸ HR.out.2.set at_ _, HT2.out.2, HT2.out.1⟩
              case measure => simp [intOf]; omega
          | false =>
            go_region_with (go_at_call 39; refine hdrop.mono ?_; rintro e w3 ⟨rfl, b', pr', hHx, hxx⟩; have hX3 := HDC.out w3 hxx; have hc3 : w3.cell? ⟨xb, at_, none⟩ = some (.bool false) := by (rw [← HT.out.2.2.2.2]; exact (hX3.cell at_).trans (boolCells_get Ds at_ (by rw [HT.out.2.1]; exact hatK))))
            all_goals
              have hf3 := hX3.frozen at_
              have hxl3 := hX3.lt
              have HR := Hidden.mk (And.intro hHx hX3)
              clear hHx hX3 hxx hwr
              go_wp2_with fail
              go_roundw
              case rel => exact ⟨i + 1, _, _, _, _, Ds.set at_ true, by omega, by go_num, HR.out.1.mod ((Mod.refl _ _).set (.inl (by simp)) _), HS.out ▸ HR.out.2.set at_ _, HT2.out.2, HT2.out.1⟩
              case measure => simp [intOf]; omega
        · have hb := hHx.hm.below
          have HS := Hidden.mk (And.intro hHx (And.intro hX (And.intro hDl hT)))
          clear hHx hX hDl hT
          rcases Nat.lt_or_ge i len4 with h1 | h1
          · have h2 : 200 ≤ i := by omega
            have h2d : decide ((200 : Int) ≤ (i : Int)) = true := by simp; omega
            obtain ⟨ab, aoff, rfl, hab, hcs⟩ := w4.at_ (by omega)
            obtain ⟨hcell, hwf⟩ := hcs i h1
            generalize hgv : z4.getD i 0 = g at hcell hwf
            have hcell2 := (hb.cell (p := ⟨ab, aoff + i, none⟩) hab).trans hcell
            clear hcs hcell hwf hgv hb hgo
            go_wp2_with fail
            clear h1 h2 hcell2 hi h2d
            go_loopw [81] (fun iv wr => ∃ (i b : Nat) (pr : Int) (l : List (HK × Int)) (m : Mt) (Ds : List Bool), i ≤ K ∧ iv = .int .i64 i ∧ HMx w wr tb b pr l m xb ∧ Blk wr xb 4 (boolCells Ds) ∧ Ds.length = K ∧ Tells l 7 a1 st K (fun j => Ds.getD j false)) (fun iv _ => K - (intOf iv).toNat)
            case atStart => exact ⟨0, _, _, _, _, _, by omega, rfl, HS.out.1, HS.out.2.1, HS.out.2.2.1, HS.out.2.2.2⟩
            case round =>
              clear HS
              obtain ⟨i, b, pr, l, m, Ds, hi, rfl, hHx, hX, hDl, hT⟩ := hrel
              by_cases hlt : i < K
              · have hget := hx_get (7, IntKind.u64.wrap (a1 + IntKind.u64.wrap ((i : Int) * st))) (keyOK_wrap 7 _ (by decide) (by decide)) hHx
                unfold keyV at hget
                have hti := hT i hlt
                obtain ⟨dd, hdd⟩ : ∃ q : Bool, Ds.getD i false = q := ⟨_, rfl⟩
                simp only [hdd] at hti
                rw [show keyH 7 a1 st i = (7, IntKind.u64.wrap (a1 + IntKind.u64.wrap ((i : Int) * st))) from rfl] at hti
                rw [hti] at hget
                have HT := Hidden.mk hT
                have HX := Hidden.mk (And.intro hX (And.intro hDl hdd))
                clear hT hX hHx hti hDl hdd
                go_wp2_with fail
                refine hget.mono ?_
                clear hget
                rintro e w3 ⟨rfl, pr', m', hHx, hxx⟩
                have hX : Blk w3 xb 4 (boolCells Ds) := hxx.trans HX.out.1
                have hc : w3.cell? ⟨xb, i, none⟩ = some (.bool dd) := by rw [← HX.out.2.2]; exact (hX.cell i).trans (boolCells_get Ds i (by rw [HX.out.2.1]; exact hlt))
                have HR := Hidden.mk (And.intro hHx hX)
                clear hHx hX hxx
                cases dd with
                | true =>
                  simp only [if_true, Option.getD_none, Option.isSome_none]
                  go_wp2_with fail
                  go_roundw
                  case rel => first | exact ⟨i + 1, _, _, _, _, _, by omega, by go_num, HR.out.1, HR.out.2, HX.out.2.1, HT.out⟩ | ((repeat apply Exists.intro); exact ⟨⟨i + 1, _, _, _, _, _, by omega, by go_num, HR.out.1, HR.out.2, HX.out.2.1, HT.out⟩, rfl⟩)
                  case measure => simp [intOf]; omega
                | false =>
                  simp only [Bool.false_eq_true, if_false, Option.getD_some, Option.isSome_some]
                  go_wp2_with fail
                  go_roundw
                  case rel => first | exact ⟨i + 1, _, _, _, _, _, by omega, by go_num, HR.out.1, HR.out.2, HX.out.2.1, HT.out⟩ | ((repeat apply Exists.intro); exact ⟨⟨i + 1, _, _, _, _, _, by omega, by go_num, HR.out.1, HR.out.2, HX.out.2.1, HT.out⟩, rfl⟩)
                  case measure => simp [intOf]; omega
              · have hb := hHx.hm.below
                clear hHx hX hDl hT
                go_wp2_with fail
                go_ret
                exact ⟨rfl, hb⟩
          · have h1d : decide (i < len4) = false := by simp; omega
            clear hb hgo
            go_wp2_with fail
            clear h1 h1d
            go_loopw [81] (fun iv wr => ∃ (i b : Nat) (pr : Int) (l : List (HK × Int)) (m : Mt) (Ds : List Bool), i ≤ K ∧ iv = .int .i64 i ∧ HMx w wr tb b pr l m xb ∧ Blk wr xb 4 (boolCells Ds) ∧ Ds.length = K ∧ Tells l 7 a1 st K (fun j => Ds.getD j false)) (fun iv _ => K - (intOf iv).toNat)
            case atStart => exact ⟨0, _, _, _, _, _, by omega, rfl, HS.out.1, HS.out.2.1, HS.out.2.2.1, HS.out.2.2.2⟩
            case round =>
              clear HS
              obtain ⟨i, b, pr, l, m, Ds, hi, rfl, hHx, hX, hDl, hT⟩ := hrel
              by_cases hlt : i < K
              · have hget := hx_get (7, IntKind.u64.wrap (a1 + IntKind.u64.wrap ((i : Int) * st))) (keyOK_wrap 7 _ (by decide) (by decide)) hHx
                unfold keyV at hget
                have hti := hT i hlt
                obtain ⟨dd, hdd⟩ : ∃ q : Bool, Ds.getD i false = q := ⟨_, rfl⟩
                simp only [hdd] at hti
                rw [show keyH 7 a1 st i = (7, IntKind.u64.wrap (a1 + IntKind.u64.wrap ((i : Int) * st))) from rfl] at hti
                rw [hti] at hget
                have HT := Hidden.mk hT
                have HX := Hidden.mk (And.intro hX (And.intro hDl hdd))
                clear hT hX hHx hti hDl hdd
                go_wp2_with fail
                refine hget.mono ?_
                clear hget
                rintro e w3 ⟨rfl, pr', m', hHx, hxx⟩
                have hX : Blk w3 xb 4 (boolCells Ds) := hxx.trans HX.out.1
                have hc : w3.cell? ⟨xb, i, none⟩ = some (.bool dd) := by rw [← HX.out.2.2]; exact (hX.cell i).trans (boolCells_get Ds i (by rw [HX.out.2.1]; exact hlt))
                have HR := Hidden.mk (And.intro hHx hX)
                clear hHx hX hxx
                cases dd with
                | true =>
                  simp only [if_true, Option.getD_none, Option.isSome_none]
                  go_wp2_with fail
                  go_roundw
                  case rel => first | exact ⟨i + 1, _, _, _, _, _, by omega, by go_num, HR.out.1, HR.out.2, HX.out.2.1, HT.out⟩ | ((repeat apply Exists.intro); exact ⟨⟨i + 1, _, _, _, _, _, by omega, by go_num, HR.out.1, HR.out.2, HX.out.2.1, HT.out⟩, rfl⟩)
                  case measure => simp [intOf]; omega
                | false =>
                  simp only [Bool.false_eq_true, if_false, Option.getD_some, Option.isSome_some]
                  go_wp2_with fail
                  go_roundw
                  case rel => first | exact ⟨i + 1, _, _, _, _, _, by omega, by go_num, HR.out.1, HR.out.2, HX.out.2.1, HT.out⟩ | ((repeat apply Exists.intro); exact ⟨⟨i + 1, _, _, _, _, _, by omega, by go_num, HR.out.1, HR.out.2, HX.out.2.1, HT.out⟩, rfl⟩)
                  case measure => simp [intOf]; omega
              · have hb := hHx.hm.below
                clear hHx hX hDl hT
                go_wp2_with fail
                go_ret
                exact ⟨rfl, hb⟩
end Go.Proofs.Ytnbanbfnabhjjaa
