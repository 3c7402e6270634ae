/- The walk of SlotsMany. -/
import Derived.Test.YtnbanbfnabhjjaaSlotsW
import Derived.Test.YtnbanbfnabhjjaaHolesV
namespace Go.Proofs.Ytnbanbfnabhjjaa
open Go.RowKit
set_option linter.unusedVariables false
set_option linter.unusedSimpArgs false

theorem SM.lt {O : Nat → Prop} {w0 w : World} {sb limit n : Nat} {f : Int → Option Int} (h : SM O w0 w sb limit f n) : sb < w.heap.size := by obtain ⟨mb, pb, tb, s, l, h1, _⟩ := h; exact h1.blk.lt
theorem SM.pos {O : Nat → Prop} {w0 w : World} {sb limit n : Nat} {f : Int → Option Int} (h : SM O w0 w sb limit f n) {k v : Int} (hk : f k = some v) : 1 ≤ n := by
  obtain ⟨mb, pb, tb, s, l, h1, hr, rfl, rfl, hf⟩ := h
  have h2 := hr.sval_is k
  rw [hf, hk] at h2
  cases hl : lk l (1, k) with
  | none => rw [hl] at h2; cases h2
  | some i =>
    have := List.length_pos_of_mem (lk_mem hl)
    have := hr.count; omega
/-- What is told of the keys in a row from from_ on. -/
def STells (f : Int → Option Int) (from_ : Int) (K : Nat) (D : Nat → Bool) : Prop := ∀ j, j < K → f (IntKind.u64.wrap (from_ + (j : Int))) = if D j then none else some ((j : Int) * 7)
theorem wrap_row_inj {from_ : Int} {i j : Nat} (hi : i < 4294967296) (hj : j < 4294967296) (h : IntKind.u64.wrap (from_ + (i : Int)) = IntKind.u64.wrap (from_ + (j : Int))) : i = j := by
  rw [IntKind.wrap_u64, IntKind.wrap_u64] at h; omega
theorem STells.put {f : Int → Option Int} {from_ : Int} {K i : Nat} (hK : K ≤ 256) (hi : i < K) (h : STells f from_ K (fun j => decide (i ≤ j))) : STells (fput f (IntKind.u64.wrap (from_ + (i : Int))) ((i : Int) * 7)) from_ K (fun j => decide (i + 1 ≤ j)) := by
  intro j hj
  unfold fput
  by_cases hij : j = i
  · subst hij; rw [if_pos rfl]; simp
  · rw [if_neg (fun h => hij (wrap_row_inj (by omega) (by omega) h)), h j hj]
    have : decide (i ≤ j) = decide (i + 1 ≤ j) := by by_cases h : i ≤ j <;> simp [h] <;> omega
    simp only [this]
theorem STells.drop {f : Int → Option Int} {from_ : Int} {K i : Nat} {Ds : List Bool} (hK : K ≤ 256) (hDl : Ds.length = K) (hi : i < K) (h : STells f from_ K (fun j => Ds.getD j false)) :
    STells (fdrop f (IntKind.u64.wrap (from_ + (i : Int)))) from_ K (fun j => (Ds.set i true).getD j false) := by
  intro j hj
  unfold fdrop
  by_cases hij : j = i
  · subst hij; rw [if_pos rfl]
    have : (Ds.set j true).getD j false = true := by rw [List.getD_eq_getElem?_getD, List.getElem?_set]; simp [show j < Ds.length by omega]
    simp only [this, if_true]
  · rw [if_neg (fun h => hij (wrap_row_inj (by omega) (by omega) h)), h j hj]
    have : (Ds.set i true).getD j false = Ds.getD j false := by rw [List.getD_eq_getElem?_getD, List.getElem?_set_ne (Ne.symm hij), List.getD_eq_getElem?_getD]
    simp only [this]

set_option maxRecDepth 100000 in
set_option maxHeartbeats 3000000 in
theorem slotsMany_walk (a0 a1 a2 : Int) (a3 : Option Addr) (len3 cap3 : Nat) (z3 : List Int) (w0 : (Lit.int .u64 a0).wf = true) (w1 : (Lit.int .u64 a1).wf = true) (w2 : (Lit.int .u8 a2).wf = true)
    (w : World) (w3 : IntRow .u8 w a3 len3 cap3 z3) (y3 : len3 * 1 ≤ 140737488351232) :
    Calls Try.prog 9 #[.int .u64 a0, .int .u64 a1, .int .u8 a2, .slice a3 len3 cap3] w fun e w' => e = .returned (.bool true) ∧ Below w.heap.size w w' := by
  have b2 := bounds_u8 w2
  have hle3 := w3.le
  go_enter Try.func9, Try.ntmps9
  go_wp2_with fail
  refine (awake22 w.heap.size w (Nat.le_refl _)).mono ?_; rintro e wa ⟨rfl, hB⟩
  go_wp2_with fail
  obtain ⟨K, hK⟩ : ∃ K : Nat, 1 + a2 = (K : Int) := ⟨(1 + a2).toNat, by omega⟩
  have hK1 : 1 ≤ K := by omega
  have hK2 : K ≤ 256 := by omega
  rw [hK]
  clear hK
  refine (slots_new a0 K (by omega) wa).mono ?_; rintro e wb ⟨sb, rfl, hS⟩
  obtain ⟨O, hO⟩ : ∃ O : Nat → Prop, O = fun k => wa.heap.size ≤ k := ⟨_, rfl⟩
  rw [← hO] at hS
  have hOB : ∀ k, O k → w.heap.size ≤ k := fun k hk => by rw [hO] at hk; exact Nat.le_trans hB.size hk
  clear hO
  go_wp2_with fail
  go_loopw [37] (fun iv wr => ∃ (i : Nat) (f : Int → Option Int), i ≤ K ∧ iv = .int .i64 i ∧ SM O wa wr sb K f i ∧ STells f a1 K (fun j => decide (i ≤ j))) (fun iv _ => K - (intOf iv).toNat)
  case atStart => exact ⟨0, _, by omega, rfl, hS, fun j hj => by simp⟩
  case round =>
    clear hS
    obtain ⟨i, f, hi, rfl, hS, hT⟩ := hrel
    by_cases hlt : i < K
    · have hf : f (IntKind.u64.wrap (a1 + (i : Int))) = none := by rw [hT i hlt]; simp
      have hput := slots_put_new (IntKind.u64.wrap (a1 + (i : Int))) ((i : Int) * 7) (U64.wrap _) hS hf hlt
      have HT := Hidden.mk (hT.put hK2 hlt)
      clear hT hS hf
      go_wp2_with fail
      refine hput.mono ?_
      clear hput
      rintro e w3 ⟨rfl, hS⟩
      have HS := Hidden.mk hS
      clear hS
      go_wp2_with fail
      go_roundw
      case rel => exact ⟨i + 1, _, by omega, by go_num, HS.out, HT.out⟩
      case measure => simp [intOf]; omega
    · obtain rfl : K = i := by omega
      have hT0 : STells f a1 K (fun j => (List.replicate K false).getD j false) := by
        intro j hj; rw [hT j hj]
        show (if decide (K ≤ j) = true then none else some ((j : Int) * 7)) = if (List.replicate K false).getD j false = true then none else some ((j : Int) * 7)
        have h1 : decide (K ≤ j) = false := by simp; omega
        have h2 : (List.replicate K false).getD j false = false := by rw [List.getD_eq_getElem?_getD, List.getElem?_replicate]; split <;> rfl
        rw [h1, h2]
      have HT0 := Hidden.mk hT0
      have hroom := slots_room 1 hS
      rw [show decide ((1 : Int) ≤ (K : Int) - K) = false from by simp] at hroom
      clear hT hT0 hS hlt
      go_wp2_with fail
      refine hroom.mono ?_
      clear hroom
      rintro e wc ⟨rfl, hS⟩
      have hlen := slots_len hS
      have HS := Hidden.mk hS
      have hmk := make_bools K (by omega)
      clear hS
      go_wp2_with fail
      refine hlen.mono ?_
      rintro e wd ⟨rfl, rfl⟩
      go_wp2_with fail
      have hX : Blk (wc.alloc (.cells (Array.replicate K (Value.bool false)) 4)) wc.heap.size 4 (boolCells (List.replicate K false)) := by
        have := Blk.new wc 4 (boolCells (List.replicate K false))
        unfold boolCells at this ⊢; simpa using this
      have hBc : Below w.heap.size w wc := hB.trans (HS.out.keep.below hB.size hOB)
      have hBd : Below w.heap.size w (wc.alloc (.cells (Array.replicate K (Value.bool false)) 4)) := hBc.trans (((Mod.refl [] wc).alloc _).below hBc.size (by simp))
      have hSx := HS.out.rebase.beside (.cells (Array.replicate K (Value.bool false)) 4)
      have hsx : sb ≠ wc.heap.size := Nat.ne_of_lt HS.out.lt
      have hxB : w.heap.size ≤ wc.heap.size := hBc.size
      have hT0 := HT0.out
      generalize hxb : wc.heap.size = xb at *
      obtain ⟨O1, hO1⟩ : ∃ O1 : Nat → Prop, O1 = fun k => O k ∧ k ≠ xb := ⟨_, rfl⟩
      rw [← hO1] at hSx
      have hOB1 : ∀ k, O1 k → w.heap.size ≤ k := fun k hk => by rw [hO1] at hk; exact hOB k hk.1
      have hOx : ¬ O1 xb := by rw [hO1]; simp
      clear hmk HS HT0 hlen hxb hBc hO1 hOB hB
      go_loopw [15, 72] (fun lv iv wr => ∃ (i left : Nat) (f : Int → Option Int) (Ds : List Bool), i ≤ len3 ∧ left ≤ K ∧ iv = .int .i64 i ∧ lv = .int .i64 left ∧ Below w.heap.size w wr ∧ SM O1 wr wr sb K f left ∧ Blk wr xb 4 (boolCells Ds) ∧ Ds.length = K ∧ STells f a1 K (fun j => Ds.getD j false)) (fun _ iv _ => len3 - (intOf iv).toNat)
      case atStart => exact ⟨0, K, _, List.replicate K false, by omega, by omega, rfl, rfl, hBd, hSx, hX, by simp, hT0⟩
      case round =>
        clear hSx hX hT0 hBd f
        obtain ⟨i, left, f, Ds, hi, hleft, rfl, rfl, hBr, hS, hX, hDl, hT⟩ := hrel
        by_cases hlt : i < len3
        · obtain ⟨ab, aoff, rfl, hab, hcs⟩ := w3.at_ (by omega)
          obtain ⟨hcell, hwf⟩ := hcs i hlt
          generalize hgv : z3.getD i 0 = g at hcell hwf
          have hg := bounds_u8 hwf
          have hcell2 := (hBr.cell (p := ⟨ab, aoff + i, none⟩) hab).trans hcell
          obtain ⟨at_, hat⟩ : ∃ q : Nat, g % (K : Int) = q := ⟨(g % (K : Int)).toNat, by have := Int.emod_nonneg g (show (K : Int) ≠ 0 by omega); omega⟩
          have hatK : at_ < K := by have := Int.emod_lt_of_pos g (show (0 : Int) < K by omega); omega
          obtain ⟨dd, hdd⟩ : ∃ q : Bool, Ds.getD at_ false = q := ⟨_, rfl⟩
          have hc : wr.cell? ⟨xb, at_, none⟩ = some (.bool dd) := by rw [← hdd]; exact (hX.cell at_).trans (boolCells_get Ds at_ (by omega))
          have hfz := hX.frozen at_
          have hxlt := hX.lt
          have hg0 := hg.1
          have hg1 := hg.2
          have HAT := Hidden.mk hat
          have HR := Hidden.mk (And.intro hBr (And.intro hS (And.intro hX (And.intro hDl hT))))
          by_cases hgo : 100 ≤ i ∨ dd = true
          · have hskip : (decide ((100 : Int) ≤ (i : Int)) = true) ∨ (decide ((100 : Int) ≤ (i : Int)) = false ∧ dd = true) := by
              by_cases h : 100 ≤ i
              · left; simp; omega
              · right; exact ⟨by simp; omega, hgo.resolve_left h⟩
            clear hS hX hT hDl hBr hdd hcs hcell hwf hgv hg hgo
            rcases hskip with hd | ⟨hd, rfl⟩
            · go_wp2_with fail
              go_roundw
              case rel => exact ⟨i + 1, left, f, Ds, by omega, by omega, by go_num, rfl, HR.out.1, HR.out.2.1, HR.out.2.2.1, HR.out.2.2.2.1, HR.out.2.2.2.2⟩
              case measure => simp [intOf]; omega
            · go_wp2_with fail
              go_roundw
              case rel => exact ⟨i + 1, left, f, Ds, by omega, by omega, by go_num, rfl, HR.out.1, HR.out.2.1, HR.out.2.2.1, HR.out.2.2.2.1, HR.out.2.2.2.2⟩
              case measure => simp [intOf]; omega
          · obtain rfl : dd = false := by cases dd <;> simp_all
            have hd : decide ((100 : Int) ≤ (i : Int)) = false := by simp; omega
            have hfk : f (IntKind.u64.wrap (a1 + (at_ : Int))) = some ((at_ : Int) * 7) := by rw [hT at_ hatK]; simp only [hdd]; rfl
            have hpos := hS.pos hfk
            have hmod : Mod [xb] wr (wr.setCell ⟨xb, at_, none⟩ (.bool true)) := (Mod.refl _ wr).set (.inl (by simp)) _
            have hS1 := hS.other hmod (fun k hk => by simp at hk; subst hk; exact ⟨hOx, fun h => hsx h.symm⟩)
            have hX1 : Blk (wr.setCell ⟨xb, at_, none⟩ (.bool true)) xb 4 (boolCells (Ds.set at_ true)) := boolCells_set Ds at_ true ▸ hX.set at_ _
            have hB1 : Below w.heap.size w (wr.setCell ⟨xb, at_, none⟩ (.bool true)) := hBr.trans (hmod.below hBr.size (fun k hk => by simp at hk; omega))
            have hdrop := slots_drop (IntKind.u64.wrap (a1 + (at_ : Int))) (U64.wrap _) hS1
            rw [hfk] at hdrop
            simp only [Option.isSome_some, if_true] at hdrop
            have HT := Hidden.mk (And.intro (hT.drop hK2 hDl hatK) (show (Ds.set at_ true).length = K by rw [List.length_set]; exact hDl))
            have H1 := Hidden.mk (And.intro hX1 hB1)
            clear hS hX hT hDl hBr hdd hcs hcell hwf hgv hg hgo hS1 hX1 hB1 hmod hfk
            go_wp2_with fail
            refine hdrop.mono ?_
            clear hdrop
            rintro e we ⟨rfl, hS⟩
            have hdrop := slots_drop (IntKind.u64.wrap (a1 + (at_ : Int))) (U64.wrap _) hS
            have hz : fdrop f (IntKind.u64.wrap (a1 + (at_ : Int))) (IntKind.u64.wrap (a1 + (at_ : Int))) = none := by unfold fdrop; rw [if_pos rfl]
            rw [hz] at hdrop
            simp only [Option.isSome_none, Bool.false_eq_true, if_false] at hdrop
            clear hz hS
            go_wp2_with fail
            refine hdrop.mono ?_
            clear hdrop
            rintro e wf ⟨rfl, hS⟩
            have hlen := slots_len hS
            have HS := Hidden.mk hS
            clear hS
            go_wp2_with fail
            refine hlen.mono ?_
            clear hlen
            rintro e wg ⟨rfl, rfl⟩
            have hsub : ((left - 1 : Nat) : Int) = (left : Int) - 1 := by omega
            rw [hsub]
            have HSUB := Hidden.mk hsub
            clear hsub
            go_wp2_with fail
            go_roundw
            case rel =>
              refine ⟨i + 1, left - 1, _, Ds.set at_ true, by omega, by omega, by go_num, by rw [HSUB.out], H1.out.2.trans (HS.out.keep.below H1.out.2.size hOB1), HS.out.rebase, ?_, HT.out.2, ?_⟩
              · exact (HS.out.keep.same (by simpa using hxlt) hOx).trans H1.out.1
              · have := HT.out.1
                have e2 : fdrop (fdrop f (IntKind.u64.wrap (a1 + (at_ : Int)))) (IntKind.u64.wrap (a1 + (at_ : Int))) = fdrop f (IntKind.u64.wrap (a1 + (at_ : Int))) := by funext x; unfold fdrop; split <;> rfl
                rw [e2]; exact this
            case measure => simp [intOf]; omega
        · have hB := hBr
          have HB := Hidden.mk hBr
          have HS := Hidden.mk (And.intro hS (And.intro hX (And.intro hDl hT)))
          clear hS hX hDl hT hBr hB
          go_wp2_with fail
          clear hlt
          go_loopw [117] (fun iv wq => ∃ (i : Nat), i ≤ K ∧ iv = .int .i64 i ∧ SM O1 wr wq sb K f left) (fun iv _ => K - (intOf iv).toNat)
          case atStart => exact ⟨0, by omega, rfl, HS.out.1⟩
          case round =>
            obtain ⟨i, hi, rfl, hS⟩ := hrel
            by_cases hlt : i < K
            · have hget := slots_get (IntKind.u64.wrap (a1 + (i : Int))) (U64.wrap _) hS
              have hti := HS.out.2.2.2 i hlt
              obtain ⟨dd, hdd⟩ : ∃ q : Bool, Ds.getD i false = q := ⟨_, rfl⟩
              simp only [hdd] at hti
              rw [hti] at hget
              have HD := Hidden.mk hdd
              clear hti hS hdd
              go_wp2_with fail
              refine hget.mono ?_
              clear hget
              rintro e wh ⟨rfl, hS⟩
              have hXh : Blk wh xb 4 (boolCells Ds) := (hS.keep.same HS.out.2.1.lt hOx).trans HS.out.2.1
              have hc : wh.cell? ⟨xb, i, none⟩ = some (.bool dd) := by rw [← HD.out]; exact (hXh.cell i).trans (boolCells_get Ds i (by rw [HS.out.2.2.1]; exact hlt))
              have HQ := Hidden.mk hS
              clear hS hXh
              cases dd with
              | true =>
                simp only [if_true, Option.getD_none, Option.isSome_none]
                go_wp2_with fail
                go_roundw
                case rel => exact ⟨i + 1, by omega, by go_num, HQ.out⟩
                case measure => simp [intOf]; omega
              | false =>
                simp only [Bool.false_eq_true, if_false, Option.getD_some, Option.isSome_some]
                go_wp2_with fail
                go_roundw
                case rel => exact ⟨i + 1, by omega, by go_num, HQ.out⟩
                case measure => simp [intOf]; omega
            · have hroom := slots_room ((K : Int) - left) hS
              rw [show decide ((K : Int) - left ≤ (K : Int) - left) = true from by simp] at hroom
              clear hS
              go_wp2_with fail
              refine hroom.mono ?_
              clear hroom
              rintro e wh ⟨rfl, hS⟩
              have HQ := Hidden.mk hS
              clear hS
              go_wp2_with fail
              go_ret
              exact ⟨rfl, HB.out.trans (HQ.out.keep.below HB.out.size hOB1)⟩
end Go.Proofs.Ytnbanbfnabhjjaa
