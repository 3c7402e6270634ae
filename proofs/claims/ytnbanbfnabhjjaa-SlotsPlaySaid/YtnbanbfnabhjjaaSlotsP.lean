/- The walk of SlotsPlay. -/
import Derived.Test.YtnbanbfnabhjjaaSlotsP0
namespace Go.Proofs.Ytnbanbfnabhjjaa
open Go.RowKit
set_option linter.unusedVariables false
set_option linter.unusedSimpArgs false
theorem vals_eq {l : PL} (hR : Rise l) : (l.map (·.1)).filterMap (pval l) = l.map (·.2) := by
  have key : ∀ m : PL, (∀ e ∈ m, pval l e.1 = some e.2) → (m.map (·.1)).filterMap (pval l) = m.map (·.2) := by
    intro m
    induction m with
    | nil => intro _; rfl
    | cons e m ih =>
      intro h
      rw [List.map_cons, List.filterMap_cons, h e (by simp), ih (fun x hx => h x (List.mem_cons_of_mem _ hx))]; rfl
  refine key l (fun e he => ?_)
  obtain ⟨i, hi, hx⟩ := List.getElem_of_mem he
  exact pval_of_get hR (i := i) (by rw [List.getElem?_eq_getElem hi, hx])
theorem fdrop_eq {l : PL} (hR : Rise l) (k : Int) : fdrop (pval l) k = pval (pdrop l k) := by funext x; unfold fdrop; rw [(hR.drop k).2]
theorem fput_eq {l : PL} (hR : Rise l) (k v : Int) : fput (pval l) k v = pval (pput l k v) := by funext x; unfold fput; rw [(hR.put k v).2]
theorem Play.dropped {W wr w' : World} {sb limit : Nat} {v : Value} {l : PL} {k : Int} (hR : Rise l) (h : Play W w' sb limit (fdrop (pval l) k) (if (pval l k).isSome then l.length - 1 else l.length) v l) : Play W w' sb limit (pval (pdrop l k)) (pdrop l k).length v l := by
  rw [fdrop_eq hR, ← pis_eq hR] at h; rw [pdrop_length]; exact h
theorem Play.putOld {W wr w' : World} {sb limit : Nat} {v : Value} {l : PL} {k x : Int} (hR : Rise l) (hp : pis l k = true) (h : Play W w' sb limit (fput (pval l) k x) l.length v l) : Play W w' sb limit (pval (pput l k x)) (pput l k x).length v l := by
  rw [fput_eq hR] at h; rw [pput_length, hp]; exact h
theorem Play.putNew {W wr w' : World} {sb limit : Nat} {v : Value} {l : PL} {k x : Int} (hR : Rise l) (hp : pis l k = false) (h : Play W w' sb limit (fput (pval l) k x) (l.length + 1) v l) : Play W w' sb limit (pval (pput l k x)) (pput l k x).length v l := by
  rw [fput_eq hR] at h; rw [pput_length, hp]; exact h
theorem Play.calledWith {W wr : World} {sb limit n : Nat} {f : Int → Option Int} {v : Value} {l : PL} (h : Play W wr sb limit f n v l) {F : Nat} {args : Array Value} {r : Value} {f' : Int → Option Int} {n' : Nat}
    (hc : ∀ O : Nat → Prop, SM O wr wr sb limit f n → Calls Try.prog F args wr fun e w' => e = .returned r ∧ SM O wr w' sb limit f' n') :
    Calls Try.prog F args wr fun e w' => e = .returned r ∧ Play W w' sb limit f' n' v l := by
  obtain ⟨O, h1, h2, h3⟩ := h.ex
  refine (hc O h2).mono ?_
  rintro e w' ⟨rfl, hS⟩
  exact ⟨rfl, h.call h1 h3 hS⟩
theorem Play.callKeep {W wr w1 : World} {sb limit n : Nat} {f : Int → Option Int} {v : Value} {l : PL} (h : Play W wr sb limit f n v l) (hm : Mod [] wr w1) {x : Nat} (hx : wr.heap.size ≤ x) (hx' : x < w1.heap.size) {F : Nat} {args : Array Value} {r : Value} {f' : Int → Option Int} {n' : Nat}
    (hc : ∀ O : Nat → Prop, SM O w1 w1 sb limit f n → Calls Try.prog F args w1 fun e w' => e = .returned r ∧ SM O w1 w' sb limit f' n') :
    Calls Try.prog F args w1 fun e w' => e = .returned r ∧ Play W w' sb limit f' n' v l ∧ w'.heap[x]? = w1.heap[x]? := by
  obtain ⟨O, h1, h2, h3⟩ := h.ex
  have h4 := h2.grow hm (by simp) (X := [x]) (fun y hy => by simp at hy; subst hy; exact ⟨.inl hx, hx'⟩)
  refine (hc _ h4).mono ?_
  rintro e w' ⟨rfl, hS⟩
  exact ⟨rfl, (h.mod0 hm).call (fun k hk => h1 k hk.1) (fun b hb => ⟨fun hk => (h3 b hb).1 hk.1, (h3 b hb).2⟩) hS, hS.keep.same hx' (fun hk => hk.2 (by simp))⟩
theorem Play.lenWith {W wr : World} {sb limit n : Nat} {f : Int → Option Int} {v : Value} {l : PL} (h : Play W wr sb limit f n v l) : Calls Try.prog 60 #[.pointer (some ⟨sb, 0, none⟩)] wr fun e w' => e = .returned (.int .i64 n) ∧ wr = w' := by
  obtain ⟨O, h1, h2, h3⟩ := h.ex
  exact slots_len h2
set_option maxRecDepth 100000 in
set_option maxHeartbeats 8000000 in
theorem slotsPlay_walk (a0 a1 : Int) (a2 : Option Addr) (len2 cap2 : Nat) (z2 : Nat → Nat → Int) (w0 : (Lit.int .u64 a0).wf = true) (w1 : (Lit.int .u8 a1).wf = true) (w : World) (w2 : StRow [.u8, .u64, .u64] w a2 len2 cap2 z2) :
    Calls Try.prog 10 #[.int .u64 a0, .int .u8 a1, .slice a2 len2 cap2] w fun e w' => e = .returned (.bool true) ∧ Below w.heap.size w w' := by
  have b1 := bounds_u8 w1
  have hle2 := w2.le
  go_enter Try.func10, Try.ntmps10
  go_wp2_with fail
  refine (awake22 w.heap.size w (Nat.le_refl _)).mono ?_; rintro e wa ⟨rfl, hB⟩
  go_wp2_with fail
  obtain ⟨L, hL⟩ : ∃ L : Nat, a1 % 30 = (L : Int) := ⟨(a1 % 30).toNat, by omega⟩
  have hL2 : L < 30 := by omega
  rw [hL]
  clear hL
  refine (slots_new a0 L (by omega) wa).mono ?_; rintro e wb ⟨sb, rfl, hS⟩
  have hP := Play.start (f := fun _ => none) (n := 0) hB hS
  clear hS hB
  go_wp2_with fail
  go_loopw [10, 38] (fun v iv wr => ∃ (i : Nat) (b : Option Addr) (c : Nat) (l : PL), i ≤ len2 ∧ iv = .int .i64 i ∧ v = .slice b l.length c ∧ l.length ≤ i ∧ l.length ≤ L ∧ Rise l ∧ (∀ e ∈ l, U64 e.1) ∧ Play w wr sb L (pval l) l.length v l) (fun _ iv _ => len2 - (intOf iv).toNat)
  case atStart => exact ⟨0, none, 0, [], by omega, rfl, rfl, by simp, by simp, trivial, by simp, hP⟩
  case round =>
    clear hP
    obtain ⟨i, b, c, l, hi, rfl, rfl, hli, hlL, hR, hU, hP⟩ := hrel
    by_cases hlt : i < len2
    · obtain ⟨ab, aoff, rfl, hab, hcs⟩ := w2.at_ (by omega) (by simp)
      obtain ⟨hc0, hw0⟩ := hcs i hlt 0 .u8 rfl
      obtain ⟨hc1, hw1⟩ := hcs i hlt 1 .u64 rfl
      obtain ⟨hc2, hw2⟩ := hcs i hlt 2 .u64 rfl
      have hB := hP.below
      have c0 : wr.cell? ⟨ab, aoff + i * 3, none⟩ = some (.int .u8 (z2 i 0)) := (hB.cell (p := ⟨ab, aoff + i * 3, none⟩) hab).trans hc0
      have c1 : wr.cell? ⟨ab, aoff + i * 3 + 1, none⟩ = some (.int .u64 (z2 i 1)) := (hB.cell (p := ⟨ab, aoff + i * 3 + 1, none⟩) hab).trans hc1
      have c2 : wr.cell? ⟨ab, aoff + i * 3 + 2, none⟩ = some (.int .u64 (z2 i 2)) := (hB.cell (p := ⟨ab, aoff + i * 3 + 2, none⟩) hab).trans hc2
      have d0 := bounds_u8 hw0
      have d1 := bounds_u64 hw1
      have d2 := bounds_u64 hw2
      generalize z2 i 0 = dd at *
      generalize z2 i 1 = kk at *
      generalize z2 i 2 = vv at *
      clear hcs hc0 hc1 hc2 hw0 hw1 hw2 hB
      have HP := Hidden.mk (And.intro hP (And.intro hR hU))
      have hl1000 : l.length ≤ 1000 := by omega
      have hP1 := hP.mod0 ((Mod.refl [] wr).alloc (.cells #[.int .u8 dd, .int .u64 kk, .int .u64 vv] 88))
      have hfind := ref22_find l kk _ _ hP1.row
      clear hP hR hU hP1
      by_cases h80 : 80 ≤ i
      · have hd80 : decide ((80 : Int) ≤ (i : Int)) = true := by simp; omega
        have hwl : Hidden (∀ W : World, Mod [] wr W → Row W 92 2 (.slice b l.length c) l.length (pcells l)) := ⟨fun W hW => HP.out.1.row.mod hW (by simp)⟩
        clear hfind
        go_wp2_with fail
        clear hlt c0 c1 c2 d0 d1 d2 h80 hd80
        go_loopw [20, 170] (fun o iv wq => ∃ (j : Nat) (b' : Option Addr) (c' : Nat), j ≤ l.length ∧ iv = .int .i64 j ∧ o = .slice b' j c' ∧ WayU wr wq o j ((l.take j).map (·.2))) (fun _ iv _ => l.length - (intOf iv).toNat)
        case atStart => exact ⟨0, none, 0, by omega, rfl, rfl, WayU.nil_ ((Mod.refl [] wr).alloc _)⟩
        case round =>
          obtain ⟨j, b', c', hj, rfl, rfl, hW⟩ := hrel
          by_cases hlt : j < l.length
          · obtain ⟨e, he⟩ : ∃ e, l[j]? = some e := ⟨l[j], by simp [hlt]⟩
            obtain ⟨g, rfl, hg, hc0, hc1⟩ := PRow.at_ (hwl.out _ hW.mod) he hlt
            obtain ⟨e1, e2⟩ := e
            simp only at hc0 hc1
            have HE := Hidden.mk he
            have hw2 := Hidden.mk ((hW.alloc (.cells #[.int .u64 e1, .int .u64 e2] 92)).alloc (.cells #[.int .u64 e2] 22))
            have hn1 : Hidden (Holds ((wr.alloc (.cells #[.int .u64 e1, .int .u64 e2] 92)).alloc (.cells #[.int .u64 e2] 22)) (.slice (some ⟨wr.heap.size + 1, 0, none⟩) 1 1) 1 1 [.int .u64 e2]) := ⟨by have := holds_new1 (wr.alloc (.cells #[.int .u64 e1, .int .u64 e2] 92)) (.int .u64 e2) 22; rw [World.size_alloc] at this; exact this⟩
            have tst2 : Hidden (ucells ((l.take j).map (·.2)) ++ [Value.int .u64 e2] = ucells ((l.take (j + 1)).map (·.2))) := ⟨by unfold ucells; rw [List.take_add_one, HE.out]; simp⟩
            have hj1000 : j + 1 ≤ 1000 := by omega
            clear hW he
            go_wp2_with (refine wpList_any rfl (.tmp 174) (.tmp 177) 45 rfl 22 (.int .u64 0) 1 8 (by kernel_rfl) u64_info rfl (by decide) _ _ _ rfl hw2.out.row _ _ _ rfl hn1.out (by simp [Value.oneCell']) (by omega) (by omega) ?_; intro b4 c4 w4 hr4 hm4 hf4; have hW4 := Hidden.mk (hw2.out.next hr4 hm4 hf4 tst2.out); clear hr4 hm4 hf4 hw2)
            go_roundw
            case rel => exact ⟨j + 1, _, _, by omega, by go_num, rfl, hW4.out⟩
            case measure => simp [intOf]; omega
          · obtain rfl : j = l.length := by omega
            rw [List.take_length] at hW
            obtain ⟨hP0, hR, hU⟩ := HP.out
            have hP2 := hP0.mod0 hW.mod
            obtain ⟨O, h1, h2, h3, h4⟩ := hP0.with_ hW
            have hkeys := ref22_keys l _ wr hP2.row hl1000
            have HQ := Hidden.mk (And.intro hW (And.intro h1 (And.intro h2 (And.intro h3 (And.intro hP2.below (And.intro hR hU))))))
            clear hW h1 h2 h3 h4 hP2 hP0 hR hU HP hlt hwl
            go_wp2_with fail
            refine hkeys.mono ?_
            clear hkeys
            rintro e wk ⟨v', rfl, hK⟩
            obtain ⟨hW, h1, h2, h3, hBe, hR, hU⟩ := HQ.out
            have hS2 := h2.grow hK.mod (by simp) (X := rb v') (fun x hx => ⟨.inl (hK.ge x hx), Row.lt hK.row hx⟩)
            have hgets := slots_gets (l.map (·.1)) v' wk hS2 (by rw [List.length_map]; exact hK.row) (fun b hb h => h.2 hb) (by simpa using hl1000) (fun x hx => by obtain ⟨e, he, rfl⟩ := List.mem_map.1 hx; exact hU e he)
            rw [vals_eq hR] at hgets
            have HK := Hidden.mk hK
            clear hK hS2 hW h1 h2 h3 hBe hR hU
            go_wp2_with fail
            refine hgets.mono ?_
            clear hgets
            rintro e wg ⟨v2, rfl, hG⟩
            obtain ⟨hW, h1, h2, h3, hBe, hR, hU⟩ := HQ.out
            have hwant : Row wg 22 1 (.slice b' l.length c') (l.map (·.2)).length (ucells (l.map (·.2))) := by
              rw [List.length_map]; exact Row.keep (hW.row.mod HK.out.mod (by simp)) hG.keep (fun b hb h => h3 b hb h.1)
            have hsame := same_keys (l.map (·.2)) v2 _ wg hG.row hwant
            have hbg : Below w.heap.size w wg := (hBe.trans (HK.out.mod.below hBe.size (by simp))).trans (hG.keep.below (Nat.le_trans hBe.size HK.out.mod.size) (fun k hk => h1 k hk.1))
            have HB := Hidden.mk hbg
            clear hW h1 h2 h3 hBe hR hU hG hwant hbg HQ HK
            go_wp2_with fail
            refine hsame.mono ?_
            clear hsame
            rintro e wz ⟨rfl, hm⟩
            have HM := Hidden.mk hm
            clear hm
            go_wp2_with fail
            go_ret
            exact ⟨rfl, HB.out.trans (HM.out.below HB.out.size (by simp))⟩
      · have hd80 : decide ((80 : Int) ≤ (i : Int)) = false := by simp; omega
        go_wp2_with fail
        refine hfind.mono ?_
        clear hfind
        rintro e w1 ⟨rfl, hm1⟩
        have hmm := ((Mod.refl [] wr).alloc (.cells #[.int .u8 dd, .int .u64 kk, .int .u64 vv] 88)).trans hm1 (by simp)
        have hP := HP.out.1.mod0 hmm
        have hR := HP.out.2.1
        have hU := HP.out.2.2
        have hbal : wr.heap.size < w1.heap.size := by have := hm1.size; simp at this; omega
        have HC : Hidden (∀ {F : Nat} {args : Array Value} {r : Value} {f' : Int → Option Int} {n' : Nat}, (∀ O : Nat → Prop, SM O w1 w1 sb L (pval l) l.length → Calls Try.prog F args w1 fun e w' => e = .returned r ∧ SM O w1 w' sb L f' n') →
          Calls Try.prog F args w1 fun e w' => e = .returned r ∧ Play w w' sb L f' n' (.slice b l.length c) l ∧ w'.heap[wr.heap.size]? = w1.heap[wr.heap.size]?) := ⟨fun hc => HP.out.1.callKeep hmm (Nat.le_refl _) hbal hc⟩
        have hA : Blk w1 wr.heap.size 88 #[.int .u8 dd, .int .u64 kk, .int .u64 vv] := (Blk.new wr _ _).mod hm1 (by simp)
        have hk : U64 kk := ⟨⟨by omega, by omega⟩⟩
        have a0 : w1.cell? ⟨wr.heap.size, 0, none⟩ = some (.int .u8 dd) := hA.cell 0
        have a1 : w1.cell? ⟨wr.heap.size, 1, none⟩ = some (.int .u64 kk) := hA.cell 1
        have a2 : w1.cell? ⟨wr.heap.size, 2, none⟩ = some (.int .u64 vv) := hA.cell 2
        have HA := Hidden.mk hA
        clear c0 c1 c2 hm1 hmm HP hA hbal
        generalize wr.heap.size = ba at *
        have HP := Hidden.mk (And.intro hP (And.intro hR hU))
        clear hP hR hU
        have hpl2 := pdrop_length l
        have hpl3 := pput_length l
        have HPL := Hidden.mk (And.intro hpl2 hpl3)
        clear hpl2 hpl3
        go_wp2_with fail
        · have hc := HC.out (fun O hO => slots_drop kk hk hO)
          rw [← pis_eq HP.out.2.1] at hc
          have hq2 : (pdrop l kk).length ≤ l.length := by rw [HPL.out.1 kk]; split <;> omega
          refine hc.mono ?_; clear hc; rintro e wx ⟨rfl, hP2, hsm⟩
          have hA : Blk wx ba 88 #[.int .u8 dd, .int .u64 kk, .int .u64 vv] := hsm.trans HA.out
          have b1 : wx.cell? ⟨ba, 1, none⟩ = some (.int .u64 kk) := hA.cell 1
          clear hA hsm
          have hP2 := Play.dropped (wr := w1) HP.out.2.1 (by rw [← pis_eq HP.out.2.1]; exact hP2)
          have hdr := ref22_drop l kk _ wx hP2.row hl1000
          have HP2 := Hidden.mk hP2
          clear hP2
          go_wp2_with fail
          refine hdr.mono ?_; clear hdr; rintro e wy ⟨v', rfl, hrow, hmod, hfr⟩
          have hP3 := HP2.out.ref hrow hmod hfr
          have hR3 := (HP.out.2.1.drop kk).1
          have hU3 : ∀ e ∈ pdrop l kk, U64 e.1 := fun e he => HP.out.2.2 e (mem_pdrop he)
          obtain ⟨b', c', rfl, _⟩ := hrow.slice_
          clear hrow hmod hfr HP2
          have HP3 := Hidden.mk (And.intro hP3 (And.intro hR3 hU3))
          have hlen := hP3.lenWith
          have hroom := hP3.calledWith (fun O hO => slots_room 1 hO)
          clear hP3 hR3 hU3
          rcases Nat.lt_or_ge (pdrop l kk).length L with hroomy | hroomy
          · have hd1 : decide ((1 : Int) ≤ (L : Int) - ((pdrop l kk).length : Nat)) = true := by simp; omega
            rw [hd1] at hroom
            have hd2 : decide ((pdrop l kk).length < L) = true := by simp; omega
            clear hd1 hroomy
            go_wp2_with fail
            refine hlen.mono ?_; clear hlen; rintro e wy ⟨rfl, rfl⟩
            go_wp2_with fail
            refine hroom.mono ?_; clear hroom; rintro e wy ⟨rfl, hP4⟩
            have HP4 := Hidden.mk hP4
            clear hP4
            go_wp2_with fail
            go_roundw
            case rel => exact ⟨i + 1, _, _, _, by omega, by go_num, rfl, by first | omega | simp, by first | omega | simp, HP3.out.2.1, HP3.out.2.2, HP4.out⟩
            case measure => simp [intOf]; omega
          · have hd1 : decide ((1 : Int) ≤ (L : Int) - ((pdrop l kk).length : Nat)) = false := by simp; omega
            rw [hd1] at hroom
            have hd2 : decide ((pdrop l kk).length < L) = false := by simp; omega
            clear hd1 hroomy
            go_wp2_with fail
            refine hlen.mono ?_; clear hlen; rintro e wy ⟨rfl, rfl⟩
            go_wp2_with fail
            refine hroom.mono ?_; clear hroom; rintro e wy ⟨rfl, hP4⟩
            have HP4 := Hidden.mk hP4
            clear hP4
            go_wp2_with fail
            go_roundw
            case rel => exact ⟨i + 1, _, _, _, by omega, by go_num, rfl, by first | omega | simp, by first | omega | simp, HP3.out.2.1, HP3.out.2.2, HP4.out⟩
            case measure => simp [intOf]; omega
        iterate 3
          · have hc := HP.out.1.calledWith (fun O hO => slots_get kk hk hO)
            cases hp : pis l kk with
            | true =>
              obtain ⟨x, hx1, hx2⟩ := pget_eq kk hp
              rw [hx2] at hc
              simp only [Option.getD_some, Option.isSome_some] at hc
              rw [hp] at *
              refine hc.mono ?_; clear hc; rintro e wx ⟨rfl, hP3⟩
              have hx3 := (List.getElem?_eq_some_iff.1 hx1).1
              obtain ⟨g, rfl, hg, hc0, hc1⟩ := PRow.at_ hP3.row hx1 hx3
              have hR3 := HP.out.2.1
              have hU3 := HP.out.2.2
              clear hx1 hx2 hp
              have HP3 := Hidden.mk (And.intro hP3 (And.intro hR3 hU3))
              have hlen := hP3.lenWith
              have hroom := hP3.calledWith (fun O hO => slots_room 1 hO)
              clear hP3 hR3 hU3
              rcases Nat.lt_or_ge l.length L with hroomy | hroomy
              · have hd1 : decide ((1 : Int) ≤ (L : Int) - (l.length : Nat)) = true := by simp; omega
                rw [hd1] at hroom
                have hd2 : decide (l.length < L) = true := by simp; omega
                clear hd1 hroomy
                go_wp2_with fail
                refine hlen.mono ?_; clear hlen; rintro e wy ⟨rfl, rfl⟩
                go_wp2_with fail
                refine hroom.mono ?_; clear hroom; rintro e wy ⟨rfl, hP4⟩
                have HP4 := Hidden.mk hP4
                clear hP4
                go_wp2_with fail
                go_roundw
                case rel => exact ⟨i + 1, _, _, _, by omega, by go_num, rfl, by first | omega | simp, by first | omega | simp, HP3.out.2.1, HP3.out.2.2, HP4.out⟩
                case measure => simp [intOf]; omega
              · have hd1 : decide ((1 : Int) ≤ (L : Int) - (l.length : Nat)) = false := by simp; omega
                rw [hd1] at hroom
                have hd2 : decide (l.length < L) = false := by simp; omega
                clear hd1 hroomy
                go_wp2_with fail
                refine hlen.mono ?_; clear hlen; rintro e wy ⟨rfl, rfl⟩
                go_wp2_with fail
                refine hroom.mono ?_; clear hroom; rintro e wy ⟨rfl, hP4⟩
                have HP4 := Hidden.mk hP4
                clear hP4
                go_wp2_with fail
                go_roundw
                case rel => exact ⟨i + 1, _, _, _, by omega, by go_num, rfl, by first | omega | simp, by first | omega | simp, HP3.out.2.1, HP3.out.2.2, HP4.out⟩
                case measure => simp [intOf]; omega
            | false =>
              have hx2 : pval l kk = none := by have := pis_eq HP.out.2.1 kk; rw [hp] at this; simpa using this.symm
              rw [hx2] at hc
              simp only [Option.getD_none, Option.isSome_none] at hc
              rw [hp] at *
              refine hc.mono ?_; clear hc; rintro e wx ⟨rfl, hP3⟩
              have hR3 := HP.out.2.1
              have hU3 := HP.out.2.2
              clear hx2 hp
              have HP3 := Hidden.mk (And.intro hP3 (And.intro hR3 hU3))
              have hlen := hP3.lenWith
              have hroom := hP3.calledWith (fun O hO => slots_room 1 hO)
              clear hP3 hR3 hU3
              rcases Nat.lt_or_ge l.length L with hroomy | hroomy
              · have hd1 : decide ((1 : Int) ≤ (L : Int) - (l.length : Nat)) = true := by simp; omega
                rw [hd1] at hroom
                have hd2 : decide (l.length < L) = true := by simp; omega
                clear hd1 hroomy
                go_wp2_with fail
                refine hlen.mono ?_; clear hlen; rintro e wy ⟨rfl, rfl⟩
                go_wp2_with fail
                refine hroom.mono ?_; clear hroom; rintro e wy ⟨rfl, hP4⟩
                have HP4 := Hidden.mk hP4
                clear hP4
                go_wp2_with fail
                go_roundw
                case rel => exact ⟨i + 1, _, _, _, by omega, by go_num, rfl, by first | omega | simp, by first | omega | simp, HP3.out.2.1, HP3.out.2.2, HP4.out⟩
                case measure => simp [intOf]; omega
              · have hd1 : decide ((1 : Int) ≤ (L : Int) - (l.length : Nat)) = false := by simp; omega
                rw [hd1] at hroom
                have hd2 : decide (l.length < L) = false := by simp; omega
                clear hd1 hroomy
                go_wp2_with fail
                refine hlen.mono ?_; clear hlen; rintro e wy ⟨rfl, rfl⟩
                go_wp2_with fail
                refine hroom.mono ?_; clear hroom; rintro e wy ⟨rfl, hP4⟩
                have HP4 := Hidden.mk hP4
                clear hP4
                go_wp2_with fail
                go_roundw
                case rel => exact ⟨i + 1, _, _, _, by omega, by go_num, rfl, by first | omega | simp, by first | omega | simp, HP3.out.2.1, HP3.out.2.2, HP4.out⟩
                case measure => simp [intOf]; omega
        · have hc := HP.out.1.calledWith (fun O hO => slots_clear hO)
          refine hc.mono ?_; clear hc; rintro e wx ⟨rfl, hP2⟩
          have hP3 : Play w wx sb L (pval []) 0 (.slice none 0 0) [] := hP2.nil_
          have hR3 : Rise [] := trivial
          have hU3 : ∀ e ∈ ([] : PL), U64 e.1 := by simp
          clear hP2
          have HP3 := Hidden.mk (And.intro hP3 (And.intro hR3 hU3))
          have hlen := hP3.lenWith
          have hroom := hP3.calledWith (fun O hO => slots_room 1 hO)
          clear hP3 hR3 hU3
          rcases Nat.lt_or_ge (0 : Nat) L with hroomy | hroomy
          · have hd1 : decide ((1 : Int) ≤ (L : Int) - ((0 : Nat) : Nat)) = true := by simp; omega
            rw [hd1] at hroom
            have hd2 : decide (0 < L) = true := by simp; omega
            clear hd1 hroomy
            go_wp2_with fail
            refine hlen.mono ?_; clear hlen; rintro e wy ⟨rfl, rfl⟩
            go_wp2_with fail
            refine hroom.mono ?_; clear hroom; rintro e wy ⟨rfl, hP4⟩
            have HP4 := Hidden.mk hP4
            clear hP4
            go_wp2_with fail
            go_roundw
            case rel => exact ⟨i + 1, _, _, _, by omega, by go_num, rfl, by first | omega | simp, by first | omega | simp, HP3.out.2.1, HP3.out.2.2, HP4.out⟩
            case measure => simp [intOf]; omega
          · have hd1 : decide ((1 : Int) ≤ (L : Int) - ((0 : Nat) : Nat)) = false := by simp; omega
            rw [hd1] at hroom
            have hd2 : decide (0 < L) = false := by simp; omega
            clear hd1 hroomy
            go_wp2_with fail
            refine hlen.mono ?_; clear hlen; rintro e wy ⟨rfl, rfl⟩
            go_wp2_with fail
            refine hroom.mono ?_; clear hroom; rintro e wy ⟨rfl, hP4⟩
            have HP4 := Hidden.mk hP4
            clear hP4
            go_wp2_with fail
            go_roundw
            case rel => exact ⟨i + 1, _, _, _, by omega, by go_num, rfl, by first | omega | simp, by first | omega | simp, HP3.out.2.1, HP3.out.2.2, HP4.out⟩
            case measure => simp [intOf]; omega
        · rcases (show pis l kk = true ∨ (pis l kk = false ∧ l.length < L) ∨ (pis l kk = false ∧ L ≤ l.length) by cases pis l kk <;> simp <;> omega) with hp | ⟨hp, hlL2⟩ | ⟨hp, hlL2⟩
          · skip
            have hp2 : ∃ u, pval l kk = some u := by have := pis_eq HP.out.2.1 kk; rw [hp] at this; exact Option.isSome_iff_exists.1 this.symm
            obtain ⟨u, hu⟩ := hp2
            have hc := HC.out (fun O hO => slots_put_old kk vv u hk hO hu)
            have hq2 : (pput l kk vv).length ≤ l.length + (if pis l kk then 0 else 1) := by rw [HPL.out.2 kk vv]; split <;> simp
            rw [hp] at hq2 ⊢
            have HPIS := Hidden.mk hp
            clear hp hu
            refine hc.mono ?_; clear hc; rintro e wx ⟨rfl, hP2, hsm⟩
            have hA : Blk wx ba 88 #[.int .u8 dd, .int .u64 kk, .int .u64 vv] := hsm.trans HA.out
            have b1 : wx.cell? ⟨ba, 1, none⟩ = some (.int .u64 kk) := hA.cell 1
            have b2 : wx.cell? ⟨ba, 2, none⟩ = some (.int .u64 vv) := hA.cell 2
            clear hA hsm
            have hP2 := Play.putOld (wr := w1) HP.out.2.1 HPIS.out hP2
            have hdr := ref22_put l kk vv _ wx hP2.row hl1000
            have HP2 := Hidden.mk hP2
            clear hP2
            go_wp2_with fail
            refine hdr.mono ?_; clear hdr; rintro e wy ⟨v', rfl, hrow, hmod, hfr⟩
            have hP3 := HP2.out.ref hrow hmod (fun b hb => .inr (hfr b hb))
            have hR3 := (HP.out.2.1.put kk vv).1
            have hU3 : ∀ e ∈ pput l kk vv, U64 e.1 := fun e he => by
              rcases mem_pput he with rfl | he
              · exact hk
              · exact HP.out.2.2 e he
            obtain ⟨b', c', rfl, _⟩ := hrow.slice_
            simp only [Bool.false_eq_true, if_true, if_false] at hq2
            clear hrow hmod hfr HP2
            have HP3 := Hidden.mk (And.intro hP3 (And.intro hR3 hU3))
            have hlen := hP3.lenWith
            have hroom := hP3.calledWith (fun O hO => slots_room 1 hO)
            clear hP3 hR3 hU3
            rcases Nat.lt_or_ge (pput l kk vv).length L with hroomy | hroomy
            · have hd1 : decide ((1 : Int) ≤ (L : Int) - ((pput l kk vv).length : Nat)) = true := by simp; omega
              rw [hd1] at hroom
              have hd2 : decide ((pput l kk vv).length < L) = true := by simp; omega
              clear hd1 hroomy
              go_wp2_with fail
              refine hlen.mono ?_; clear hlen; rintro e wy ⟨rfl, rfl⟩
              go_wp2_with fail
              refine hroom.mono ?_; clear hroom; rintro e wy ⟨rfl, hP4⟩
              have HP4 := Hidden.mk hP4
              clear hP4
              go_wp2_with fail
              go_roundw
              case rel => exact ⟨i + 1, _, _, _, by omega, by go_num, rfl, by first | omega | simp, by first | omega | simp, HP3.out.2.1, HP3.out.2.2, HP4.out⟩
              case measure => simp [intOf]; omega
            · have hd1 : decide ((1 : Int) ≤ (L : Int) - ((pput l kk vv).length : Nat)) = false := by simp; omega
              rw [hd1] at hroom
              have hd2 : decide ((pput l kk vv).length < L) = false := by simp; omega
              clear hd1 hroomy
              go_wp2_with fail
              refine hlen.mono ?_; clear hlen; rintro e wy ⟨rfl, rfl⟩
              go_wp2_with fail
              refine hroom.mono ?_; clear hroom; rintro e wy ⟨rfl, hP4⟩
              have HP4 := Hidden.mk hP4
              clear hP4
              go_wp2_with fail
              go_roundw
              case rel => exact ⟨i + 1, _, _, _, by omega, by go_num, rfl, by first | omega | simp, by first | omega | simp, HP3.out.2.1, HP3.out.2.2, HP4.out⟩
              case measure => simp [intOf]; omega
          · skip
            have hu : pval l kk = none := by have := pis_eq HP.out.2.1 kk; rw [hp] at this; simpa using this.symm
            have hc := HC.out (fun O hO => slots_put_new kk vv hk hO hu hlL2)
            have hd3 : decide (L ≤ l.length) = false := by simp; omega
            have hq2 : (pput l kk vv).length ≤ l.length + (if pis l kk then 0 else 1) := by rw [HPL.out.2 kk vv]; split <;> simp
            rw [hp] at hq2 ⊢
            have HPIS := Hidden.mk hp
            clear hp hu
            refine hc.mono ?_; clear hc; rintro e wx ⟨rfl, hP2, hsm⟩
            have hA : Blk wx ba 88 #[.int .u8 dd, .int .u64 kk, .int .u64 vv] := hsm.trans HA.out
            have b1 : wx.cell? ⟨ba, 1, none⟩ = some (.int .u64 kk) := hA.cell 1
            have b2 : wx.cell? ⟨ba, 2, none⟩ = some (.int .u64 vv) := hA.cell 2
            clear hA hsm
            have hP2 := Play.putNew (wr := w1) HP.out.2.1 HPIS.out hP2
            have hdr := ref22_put l kk vv _ wx hP2.row hl1000
            have HP2 := Hidden.mk hP2
            clear hP2
            go_wp2_with fail
            refine hdr.mono ?_; clear hdr; rintro e wy ⟨v', rfl, hrow, hmod, hfr⟩
            have hP3 := HP2.out.ref hrow hmod (fun b hb => .inr (hfr b hb))
            have hR3 := (HP.out.2.1.put kk vv).1
            have hU3 : ∀ e ∈ pput l kk vv, U64 e.1 := fun e he => by
              rcases mem_pput he with rfl | he
              · exact hk
              · exact HP.out.2.2 e he
            obtain ⟨b', c', rfl, _⟩ := hrow.slice_
            simp only [Bool.false_eq_true, if_true, if_false] at hq2
            clear hrow hmod hfr HP2
            have HP3 := Hidden.mk (And.intro hP3 (And.intro hR3 hU3))
            have hlen := hP3.lenWith
            have hroom := hP3.calledWith (fun O hO => slots_room 1 hO)
            clear hP3 hR3 hU3
            rcases Nat.lt_or_ge (pput l kk vv).length L with hroomy | hroomy
            · have hd1 : decide ((1 : Int) ≤ (L : Int) - ((pput l kk vv).length : Nat)) = true := by simp; omega
              rw [hd1] at hroom
              have hd2 : decide ((pput l kk vv).length < L) = true := by simp; omega
              clear hd1 hroomy
              go_wp2_with fail
              refine hlen.mono ?_; clear hlen; rintro e wy ⟨rfl, rfl⟩
              go_wp2_with fail
              refine hroom.mono ?_; clear hroom; rintro e wy ⟨rfl, hP4⟩
              have HP4 := Hidden.mk hP4
              clear hP4
              go_wp2_with fail
              go_roundw
              case rel => exact ⟨i + 1, _, _, _, by omega, by go_num, rfl, by first | omega | simp, by first | omega | simp, HP3.out.2.1, HP3.out.2.2, HP4.out⟩
              case measure => simp [intOf]; omega
            · have hd1 : decide ((1 : Int) ≤ (L : Int) - ((pput l kk vv).length : Nat)) = false := by simp; omega
              rw [hd1] at hroom
              have hd2 : decide ((pput l kk vv).length < L) = false := by simp; omega
              clear hd1 hroomy
              go_wp2_with fail
              refine hlen.mono ?_; clear hlen; rintro e wy ⟨rfl, rfl⟩
              go_wp2_with fail
              refine hroom.mono ?_; clear hroom; rintro e wy ⟨rfl, hP4⟩
              have HP4 := Hidden.mk hP4
              clear hP4
              go_wp2_with fail
              go_roundw
              case rel => exact ⟨i + 1, _, _, _, by omega, by go_num, rfl, by first | omega | simp, by first | omega | simp, HP3.out.2.1, HP3.out.2.2, HP4.out⟩
              case measure => simp [intOf]; omega
          · skip
            have hu : pval l kk = none := by have := pis_eq HP.out.2.1 kk; rw [hp] at this; simpa using this.symm
            have hc := HP.out.1.calledWith (fun O hO => slots_put_full kk vv hk hO hu hlL2)
            have hd3 : decide (L ≤ l.length) = true := by simp; omega
            rw [hp] at *
            clear hp hu
            refine hc.mono ?_; clear hc; rintro e wx ⟨rfl, hP3⟩
            have hR3 := HP.out.2.1
            have hU3 := HP.out.2.2
            have HP3 := Hidden.mk (And.intro hP3 (And.intro hR3 hU3))
            have hlen := hP3.lenWith
            have hroom := hP3.calledWith (fun O hO => slots_room 1 hO)
            clear hP3 hR3 hU3
            rcases Nat.lt_or_ge l.length L with hroomy | hroomy
            · have hd1 : decide ((1 : Int) ≤ (L : Int) - (l.length : Nat)) = true := by simp; omega
              rw [hd1] at hroom
              have hd2 : decide (l.length < L) = true := by simp; omega
              clear hd1 hroomy
              go_wp2_with fail
              refine hlen.mono ?_; clear hlen; rintro e wy ⟨rfl, rfl⟩
              go_wp2_with fail
              refine hroom.mono ?_; clear hroom; rintro e wy ⟨rfl, hP4⟩
              have HP4 := Hidden.mk hP4
              clear hP4
              go_wp2_with fail
              go_roundw
              case rel => exact ⟨i + 1, _, _, _, by omega, by go_num, rfl, by first | omega | simp, by first | omega | simp, HP3.out.2.1, HP3.out.2.2, HP4.out⟩
              case measure => simp [intOf]; omega
            · have hd1 : decide ((1 : Int) ≤ (L : Int) - (l.length : Nat)) = false := by simp; omega
              rw [hd1] at hroom
              have hd2 : decide (l.length < L) = false := by simp; omega
              clear hd1 hroomy
              go_wp2_with fail
              refine hlen.mono ?_; clear hlen; rintro e wy ⟨rfl, rfl⟩
              go_wp2_with fail
              refine hroom.mono ?_; clear hroom; rintro e wy ⟨rfl, hP4⟩
              have HP4 := Hidden.mk hP4
              clear hP4
              go_wp2_with fail
              go_roundw
              case rel => exact ⟨i + 1, _, _, _, by omega, by go_num, rfl, by first | omega | simp, by first | omega | simp, HP3.out.2.1, HP3.out.2.2, HP4.out⟩
              case measure => simp [intOf]; omega
    · obtain rfl : i = len2 := by omega
      have HP := Hidden.mk (And.intro hP (And.intro hR hU))
      have hl1000 : l.length ≤ 1000 := by omega
      have hwl : Hidden (∀ W : World, Mod [] wr W → Row W 92 2 (.slice b l.length c) l.length (pcells l)) := ⟨fun W hW => hP.row.mod hW (by simp)⟩
      clear hP hR hU hlt
      go_wp2_with fail
      go_loopw [20, 170] (fun o iv wq => ∃ (j : Nat) (b' : Option Addr) (c' : Nat), j ≤ l.length ∧ iv = .int .i64 j ∧ o = .slice b' j c' ∧ WayU wr wq o j ((l.take j).map (·.2))) (fun _ iv _ => l.length - (intOf iv).toNat)
      case atStart => exact ⟨0, none, 0, by omega, rfl, rfl, WayU.nil_ (Mod.refl [] wr)⟩
      case round =>
        obtain ⟨j, b', c', hj, rfl, rfl, hW⟩ := hrel
        by_cases hlt : j < l.length
        · obtain ⟨e, he⟩ : ∃ e, l[j]? = some e := ⟨l[j], by simp [hlt]⟩
          obtain ⟨g, rfl, hg, hc0, hc1⟩ := PRow.at_ (hwl.out _ hW.mod) he hlt
          obtain ⟨e1, e2⟩ := e
          simp only at hc0 hc1
          have HE := Hidden.mk he
          have hw2 := Hidden.mk ((hW.alloc (.cells #[.int .u64 e1, .int .u64 e2] 92)).alloc (.cells #[.int .u64 e2] 22))
          have hn1 : Hidden (Holds ((wr.alloc (.cells #[.int .u64 e1, .int .u64 e2] 92)).alloc (.cells #[.int .u64 e2] 22)) (.slice (some ⟨wr.heap.size + 1, 0, none⟩) 1 1) 1 1 [.int .u64 e2]) := ⟨by have := holds_new1 (wr.alloc (.cells #[.int .u64 e1, .int .u64 e2] 92)) (.int .u64 e2) 22; rw [World.size_alloc] at this; exact this⟩
          have tst2 : Hidden (ucells ((l.take j).map (·.2)) ++ [Value.int .u64 e2] = ucells ((l.take (j + 1)).map (·.2))) := ⟨by unfold ucells; rw [List.take_add_one, HE.out]; simp⟩
          have hj1000 : j + 1 ≤ 1000 := by omega
          clear hW he
          go_wp2_with (refine wpList_any rfl (.tmp 174) (.tmp 177) 45 rfl 22 (.int .u64 0) 1 8 (by kernel_rfl) u64_info rfl (by decide) _ _ _ rfl hw2.out.row _ _ _ rfl hn1.out (by simp [Value.oneCell']) (by omega) (by omega) ?_; intro b4 c4 w4 hr4 hm4 hf4; have hW4 := Hidden.mk (hw2.out.next hr4 hm4 hf4 tst2.out); clear hr4 hm4 hf4 hw2)
          go_roundw
          case rel => exact ⟨j + 1, _, _, by omega, by go_num, rfl, hW4.out⟩
          case measure => simp [intOf]; omega
        · obtain rfl : j = l.length := by omega
          rw [List.take_length] at hW
          obtain ⟨hP0, hR, hU⟩ := HP.out
          have hP2 := hP0.mod0 hW.mod
          obtain ⟨O, h1, h2, h3, h4⟩ := hP0.with_ hW
          have hkeys := ref22_keys l _ wr hP2.row hl1000
          have HQ := Hidden.mk (And.intro hW (And.intro h1 (And.intro h2 (And.intro h3 (And.intro hP2.below (And.intro hR hU))))))
          clear hW h1 h2 h3 h4 hP2 hP0 hR hU HP hlt hwl
          go_wp2_with fail
          refine hkeys.mono ?_
          clear hkeys
          rintro e wk ⟨v', rfl, hK⟩
          obtain ⟨hW, h1, h2, h3, hBe, hR, hU⟩ := HQ.out
          have hS2 := h2.grow hK.mod (by simp) (X := rb v') (fun x hx => ⟨.inl (hK.ge x hx), Row.lt hK.row hx⟩)
          have hgets := slots_gets (l.map (·.1)) v' wk hS2 (by rw [List.length_map]; exact hK.row) (fun b hb h => h.2 hb) (by simpa using hl1000) (fun x hx => by obtain ⟨e, he, rfl⟩ := List.mem_map.1 hx; exact hU e he)
          rw [vals_eq hR] at hgets
          have HK := Hidden.mk hK
          clear hK hS2 hW h1 h2 h3 hBe hR hU
          go_wp2_with fail
          refine hgets.mono ?_
          clear hgets
          rintro e wg ⟨v2, rfl, hG⟩
          obtain ⟨hW, h1, h2, h3, hBe, hR, hU⟩ := HQ.out
          have hwant : Row wg 22 1 (.slice b' l.length c') (l.map (·.2)).length (ucells (l.map (·.2))) := by
            rw [List.length_map]; exact Row.keep (hW.row.mod HK.out.mod (by simp)) hG.keep (fun b hb h => h3 b hb h.1)
          have hsame := same_keys (l.map (·.2)) v2 _ wg hG.row hwant
          have hbg : Below w.heap.size w wg := (hBe.trans (HK.out.mod.below hBe.size (by simp))).trans (hG.keep.below (Nat.le_trans hBe.size HK.out.mod.size) (fun k hk => h1 k hk.1))
          have HB := Hidden.mk hbg
          clear hW h1 h2 h3 hBe hR hU hG hwant hbg HQ HK
          go_wp2_with fail
          refine hsame.mono ?_
          clear hsame
          rintro e wz ⟨rfl, hm⟩
          have HM := Hidden.mk hm
          clear hm
          go_wp2_with fail
          go_ret
          exact ⟨rfl, HB.out.trans (HM.out.below HB.out.size (by simp))⟩
end Go.Proofs.Ytnbanbfnabhjjaa
