/- ArrayChanges: the walk. -/
import Derived.Test.YthcjnijggebcaaaArrPart
import Derived.Test.YthcjnijggebcaaaRef06C
import Derived.Test.YthcjnijggebcaaaSame06
import Derived.Test.YthcjnijggebcaaaFew06
import Derived.Test.YthcjnijggebcaaaAw06
namespace Go.Proofs.Ythcjnijggebcaaa
open Go.RowKit
set_option linter.unusedVariables false
set_option linter.unusedSimpArgs false
theorem Row.news {w w' : World} {e sz n : Nat} {v : Value} {xs : List Value} (h : Row w e sz v n xs) (hm : Mod [] w w') : Row w' e sz v n xs := h.mod hm (fun _ _ => List.not_mem_nil)
theorem Row.bump {w : World} {e g cap n : Nat} {l : List Int} (h : Row w e 1 (.slice (some ⟨g, 0, none⟩) n cap) n (icells .u16 l)) (j : Nat) (x : Int) :
    Row (w.setCell ⟨g, j, none⟩ (.int .u16 x)) e 1 (.slice (some ⟨g, 0, none⟩) n cap) n (icells .u16 (l.set j x)) := by
  have := h.stored j (.int .u16 x)
  rwa [show (icells .u16 l).set j (.int .u16 x) = icells .u16 (l.set j x) from by simp [icells, List.map_set]] at this
set_option maxHeartbeats 4000000 in
set_option maxRecDepth 100000 in
theorem arrayChanges_walk {w : World} (a0 : Option Addr) (len0 cap0 : Nat) (z0 : List Int) (a1 a2 a3 : Int) (w0 : IntRow .u16 w a0 len0 cap0 z0) (y0 : len0 * 2 ≤ 140737488351232) (w1 : (Lit.int .u16 a1).wf = true) (w2 : (Lit.int .u16 a2).wf = true) (w3 : (Lit.int .u16 a3).wf = true) :
    Calls Try.prog 13 #[.slice a0 len0 cap0, .int .u16 a1, .int .u16 a2, .int .u16 a3] w fun e w' => e = .returned (.bool true) ∧ Below w.heap.size w w' := by
  obtain ⟨hsl, hlen⟩ := w0.isl
  have hb0 := w0.bnds
  obtain ⟨hv0, hv1⟩ := wf_u16 w1
  obtain ⟨v, rfl⟩ := Int.eq_ofNat_of_zero_le hv0
  have HB : Hidden (∀ x ∈ (z0.take len0).take 300, 0 ≤ x ∧ x < 65536) := ⟨fun x hx => wf_u16 (hb0 x (List.mem_of_mem_take (List.mem_of_mem_take hx)))⟩
  have HLN : Hidden (((z0.take len0).take 300).length ≤ 300) := ⟨by simp; omega⟩
  have G0 : Hidden (∀ W, Mod [] w W → _) := ⟨fun W hW => few06_call 300 (by decide) _ _ W (hsl.news hW)⟩
  rw [hlen] at G0
  obtain ⟨L, hL⟩ : ∃ L, (z0.take len0).take 300 = L := ⟨_, rfl⟩
  rw [hL] at G0 HB HLN
  obtain ⟨l, hl⟩ : ∃ l, asc L = l := ⟨_, rfl⟩
  have hll : l.length ≤ 300 := by rw [← hl]; have := asc_le L; have := HLN.out; omega
  have NL : Hidden (Nums16 l) := ⟨by rw [← hl]; exact ⟨asc_rises _, fun x hx => HB.out x (asc_mem.1 hx)⟩⟩
  have HL := Hidden.mk hl
  have LL := Hidden.mk hll
  have hvn : v < 65536 := by omega
  clear hL hsl hlen hb0 w0 y0 w1 w2 w3 hl hll
  go_enter Try.func13, Try.ntmps13
  go_wp2_with fail
  refine (awake06 _).mono ?_
  rintro e w1 ⟨rfl, hm⟩
  have HM := Hidden.mk hm
  clear hm
  go_wp2_with fail
  refine (G0.out _ HM.out).mono ?_
  rintro e w2 ⟨vf, rfl, hW⟩
  have F := Hidden.mk hW.isl.2
  replace HM := Hidden.mk (HM.out.trans hW.mod (by simp))
  obtain ⟨pf, cf, rfl, _⟩ := F.out.slice_
  clear hW
  go_wp2_with fail
  refine (of16 F.out (by have := HLN.out; omega)).mono ?_
  rintro e w3 ⟨va, rfl, hW⟩
  have FA := Hidden.mk hW.isl.2
  replace HM := Hidden.mk (HM.out.trans hW.mod (by simp))
  rw [HL.out] at FA
  obtain ⟨pa, ca, rfl, _⟩ := FA.out.slice_
  clear hW F HL HB HLN G0
  have G1 := Hidden.mk (few06_call 300 (by decide) _ _ _ FA.out)
  rw [List.take_of_length_le LL.out] at G1
  go_wp2_with fail
  refine G1.out.mono ?_
  rintro e wA ⟨vw, rfl, hW⟩
  replace FA := Hidden.mk (FA.out.news hW.mod)
  have FW := Hidden.mk hW.isl.2
  replace HM := Hidden.mk (HM.out.trans hW.mod (by simp))
  obtain ⟨pw, cw, rfl, _⟩ := FW.out.slice_
  clear hW G1
  -- two sets
  go_wp2_with fail
  refine (of06 FA.out (by have := LL.out; omega) NL.out.2).mono ?_
  rintro e w5 ⟨t1, rfl, hs, hm, hn⟩
  obtain ⟨q1, rfl, hr1, hq1, _⟩ := hs.at_
  have hq1A : wA.heap.size ≤ q1 := hn q1 (by rw [hr1]; simp)
  have T1 := Hidden.mk hs
  have MA := Hidden.mk hm
  clear hs hm hn hr1
  go_wp2_with fail
  refine (of06 (FA.out.news MA.out) (by have := LL.out; omega) NL.out.2).mono ?_
  rintro e w6 ⟨t2, rfl, hs, hm, hn⟩
  obtain ⟨q2, rfl, hr2, hq2, _⟩ := hs.at_
  have hq25 : w5.heap.size ≤ q2 := hn q2 (by rw [hr2]; simp)
  have T2 := Hidden.mk hs
  replace T1 := Hidden.mk (T1.out.news hm)
  have hq2A : wA.heap.size ≤ q2 := Nat.le_trans MA.out.size hq25
  replace MA := Hidden.mk (MA.out.trans hm (by simp))
  have hq12 : q1 ≠ q2 := by omega
  clear hs hm hn hr2 hq1 hq2 hq25
  have HQ := Hidden.mk (And.intro hq1A (And.intro hq2A hq12))
  clear hq1A hq2A hq12
  go_wp2_with fail
  refine (fill06 T1.out v v hvn hvn true).mono ?_
  rintro e w7 ⟨n1, rfl, hn1, hi1, hs, hm⟩
  rw [show rb (.slice (some ⟨q1, 0, none⟩) 65536 65536) = [q1] from by simp [rb, Value.ownBlock]] at hm
  replace T2 := Hidden.mk (T2.out.mod hm (fun b hb => by simp [rb, Value.ownBlock] at hb ⊢; have := HQ.out.2.2; omega))
  replace T1 := Hidden.mk hs
  replace MA := Hidden.mk (MA.out.trans hm (fun x hx => by simp at hx; subst hx; exact .inr HQ.out.1))
  have N1 : Hidden (decide ((0 : Int) < (n1 : Int)) = !decide ((v : Int) ∈ l)) := ⟨by
    have h2 : n1 = 0 ↔ (v : Int) ∈ l := by
      rw [hi1]
      constructor
      · intro h; have := h v (Nat.le_refl _) (Nat.le_refl _); simpa using this
      · intro h j h1 h2; have : j = v := by omega
        subst this; simpa using h
    by_cases hvl : (v : Int) ∈ l
    · rw [decide_eq_true hvl, h2.2 hvl]; rfl
    · rw [decide_eq_false hvl]; have : n1 ≠ 0 := fun h => hvl (h2.1 h)
      exact decide_eq_true (by omega)⟩
  clear hs hm hi1
  go_wp2_with fail
  refine (fill06 T2.out v v hvn hvn false).mono ?_
  rintro e w8 ⟨n2, rfl, hn2, hi2, hs, hm⟩
  rw [show rb (.slice (some ⟨q2, 0, none⟩) 65536 65536) = [q2] from by simp [rb, Value.ownBlock]] at hm
  replace T1 := Hidden.mk (T1.out.mod hm (fun b hb => by simp [rb, Value.ownBlock] at hb ⊢; have := HQ.out.2.2; omega))
  replace T2 := Hidden.mk hs
  replace MA := Hidden.mk (MA.out.trans hm (fun x hx => by simp at hx; subst hx; exact .inr HQ.out.2.1))
  have N2 : Hidden (decide ((0 : Int) < (n2 : Int)) = decide ((v : Int) ∈ l)) := ⟨by
    have h2 : n2 = 0 ↔ (v : Int) ∉ l := by
      rw [hi2]
      constructor
      · intro h; have := h v (Nat.le_refl _) (Nat.le_refl _); simpa using this
      · intro h j h1 h2; have : j = v := by omega
        subst this; simpa using h
    by_cases hvl : (v : Int) ∈ l
    · rw [decide_eq_true hvl]; have : n2 ≠ 0 := fun h => (h2.1 h) hvl
      exact decide_eq_true (by omega)
    · rw [decide_eq_false hvl, h2.2 hvl]; rfl⟩
  clear hs hm hi2
  have UP := Hidden.mk (lst_up NL.out v hvn)
  have DN := Hidden.mk (lst_down NL.out v)
  have LUP : Hidden ((if (v : Int) ∈ l then l else insL l v).length ≤ 65536) := ⟨by rw [← UP.out]; exact lst_short _⟩
  have LDN : Hidden ((if (v : Int) ∈ l then delL l v else l).length ≤ 65536) := ⟨by rw [← DN.out]; exact lst_short _⟩
  have AD := Hidden.mk (add16 (v : Int) (FA.out.news MA.out) (by have := LL.out; omega) (rises_le NL.out.1))
  obtain ⟨lu, hlu⟩ : ∃ m, (if (v : Int) ∈ l then l else insL l v) = m := ⟨_, rfl⟩
  obtain ⟨ld, hld⟩ : ∃ m, (if (v : Int) ∈ l then delL l v else l) = m := ⟨_, rfl⟩
  rw [hlu] at UP LUP AD
  rw [hld] at DN LDN
  have HLD := Hidden.mk hld
  clear hlu hld
  go_wp2_with fail
  refine AD.out.mono ?_
  rintro e w9 ⟨vb, rfl, hW⟩
  have RB := Hidden.mk hW
  have hbA := Hidden.mk (fun b (hb : b ∈ rb vb) => Nat.le_trans MA.out.size (hW.ge b hb))
  replace RB := Hidden.mk hW.row
  replace T1 := Hidden.mk (T1.out.news hW.mod)
  replace T2 := Hidden.mk (T2.out.news hW.mod)
  replace MA := Hidden.mk (MA.out.trans hW.mod (by simp))
  clear hW AD
  have DE := Hidden.mk (del16 (v : Int) (FA.out.news MA.out) (by have := LL.out; omega) (rises_le NL.out.1))
  rw [HLD.out] at DE
  clear HLD
  go_wp2_with fail
  refine DE.out.mono ?_
  rintro e wB ⟨vc, rfl, hW⟩
  have RC := Hidden.mk hW.isl.2
  replace RB := Hidden.mk (RB.out.news hW.mod)
  replace T1 := Hidden.mk (T1.out.news hW.mod)
  replace T2 := Hidden.mk (T2.out.news hW.mod)
  replace MA := Hidden.mk (MA.out.trans hW.mod (by simp))
  clear hW DE
  obtain ⟨pc, cc, rfl, _⟩ := RC.out.slice_
  -- the part
  go_wp2_with fail
  go_loopw [19, 59] (fun vo vi wr => ∃ i : Nat, i ≤ l.length ∧ vi = .int .i64 i ∧ WayI .u16 24 wB wr vo (ptL (l.take i) a2 a3).length (ptL (l.take i) a2 a3)) (fun _ vi _ => l.length - (intOf vi).toNat)
  case atStart => exact ⟨0, by omega, rfl, by simpa [ptL] using WayI.nil_ (Mod.refl [] wB)⟩
  case round =>
    obtain ⟨i, hi, rfl, hW⟩ := hrel
    have hl3 := LL.out
    by_cases hin : i < l.length
    · obtain ⟨g, off, x, rfl, _, hx, hc⟩ := (FA.out.news (MA.out.trans hW.mod (by simp))).get hin
      have e := Hidden.mk (ptL_step hx a2 a3)
      have hpl : (ptL (l.take i) a2 a3).length ≤ 300 := by have := ptL_len (l.take i) a2 a3; rw [List.length_take] at this; omega
      clear hx
      by_cases h2 : a2 ≤ x
      · by_cases h3 : x ≤ a3
        · have h2d : decide (a2 ≤ x) = true := decide_eq_true h2
          have h3d : decide (x ≤ a3) = true := decide_eq_true h3
          have hd := Hidden.mk (icells_snoc .u16 (ptL (l.take i) a2 a3) x)
          have hw2 := Hidden.mk (hW.alloc (.cells #[.int .u16 x] 24))
          have hn1 := Hidden.mk (holds_one wr (.int .u16 x) 24 rfl)
          have HW := Hidden.mk hW
          have e2 : Hidden (ptL (l.take (i + 1)) a2 a3 = ptL (l.take i) a2 a3 ++ [x]) := ⟨by rw [e.out, if_pos ⟨h2, h3⟩]⟩
          have hl2 : Hidden ((ptL (l.take (i + 1)) a2 a3).length = (ptL (l.take i) a2 a3).length + 1) := ⟨by rw [e2.out]; simp⟩
          clear hW e
          go_wp2_with (refine wpList_any rfl (.tmp 71) (.tmp 73) 22 rfl 24 (.int .u16 0) 1 2 (by kernel_rfl) u1606 rfl (by decide) _ _ _ rfl hw2.out.row _ _ _ rfl hn1.out (by simp [Value.oneCell']) (by omega) (by omega) ?_; intro b4 c4 w4 hr4 hm4 hf4; have hW4 := Hidden.mk (hw2.out.next hr4 hm4 hf4 hd.out); clear hr4 hm4 hf4 hw2)
          go_roundw
          case rel => exact ⟨i + 1, by omega, by go_num, by rw [hl2.out, e2.out]; exact hW4.out⟩
          case measure => simp [intOf]; omega
        · have h2d : decide (a2 ≤ x) = true := decide_eq_true h2
          have h3d : decide (x ≤ a3) = false := decide_eq_false h3
          have HW := Hidden.mk hW
          have e2 : Hidden (ptL (l.take (i + 1)) a2 a3 = ptL (l.take i) a2 a3) := ⟨by rw [e.out, if_neg (fun h => h3 h.2)]⟩
          clear hW e
          go_wp2_with fail
          go_roundw
          case rel => exact ⟨i + 1, by omega, by go_num, by rw [e2.out]; exact HW.out⟩
          case measure => simp [intOf]; omega
      · have h2d : decide (a2 ≤ x) = false := decide_eq_false h2
        have HW := Hidden.mk hW
        have e2 : Hidden (ptL (l.take (i + 1)) a2 a3 = ptL (l.take i) a2 a3) := ⟨by rw [e.out, if_neg (fun h => h2 h.1)]⟩
        clear hW e
        go_wp2_with fail
        go_roundw
        case rel => exact ⟨i + 1, by omega, by go_num, by rw [e2.out]; exact HW.out⟩
        case measure => simp [intOf]; omega
    · have hie : i = l.length := by omega
      subst hie
      rw [List.take_length] at hW
      replace RB := Hidden.mk (RB.out.news hW.mod)
      replace RC := Hidden.mk (RC.out.news hW.mod)
      replace T1 := Hidden.mk (T1.out.news hW.mod)
      replace T2 := Hidden.mk (T2.out.news hW.mod)
      replace MA := Hidden.mk (MA.out.trans hW.mod (by simp))
      have RP := Hidden.mk hW.isl.2
      obtain ⟨pp, cp, rfl, _⟩ := RP.out.slice_
      have LP : Hidden ((ptL l a2 a3).length ≤ 300) := ⟨by have := ptL_len l a2 a3; omega⟩
      clear hW hi hin hl3
      have PT := Hidden.mk (part_16 a2 a3 (FA.out.news MA.out) (by have := LL.out; omega) (rises_le NL.out.1))
      rw [part_pt NL.out.1] at PT
      generalize ptL l a2 a3 = lp at *
      go_wp2_with fail
      refine PT.out.mono ?_
      rintro e wC ⟨vd, rfl, hW⟩
      have hdA := Hidden.mk (fun b (hb : b ∈ rb vd) => Nat.le_trans MA.out.size (hW.ge b hb))
      have hbd : Hidden (∀ k ∈ rb vd, k ∉ rb vb) := ⟨fun k hk hk2 => by have h1 := hW.ge k hk; have h2 := RB.out.lt hk2; omega⟩
      have RD := Hidden.mk hW.row
      replace RB := Hidden.mk (RB.out.news hW.mod)
      replace RC := Hidden.mk (RC.out.news hW.mod)
      replace RP := Hidden.mk (RP.out.news hW.mod)
      replace T1 := Hidden.mk (T1.out.news hW.mod)
      replace T2 := Hidden.mk (T2.out.news hW.mod)
      replace MA := Hidden.mk (MA.out.trans hW.mod (by simp))
      clear hW PT
      obtain ⟨pb, cb, rfl, _⟩ := RB.out.slice_
      obtain ⟨pd, cd, rfl, _⟩ := RD.out.slice_

      go_wp2_with fail
      refine (list06 T1.out).mono ?_
      rintro e wD ⟨v1, rfl, hW⟩
      have hmz : Mod [] wC wD := hW.mod
      replace RB := Hidden.mk (RB.out.news hmz)
      replace RD := Hidden.mk (RD.out.news hmz)
      replace RC := Hidden.mk (RC.out.news hmz)
      replace RP := Hidden.mk (RP.out.news hmz)
      replace T1 := Hidden.mk (T1.out.news hmz)
      replace T2 := Hidden.mk (T2.out.news hmz)
      replace MA := Hidden.mk (MA.out.trans hmz (by simp))
      have R1 := Hidden.mk (hW.isl.2)
      rw [UP.out] at R1
      obtain ⟨p1, c1, rfl, _⟩ := R1.out.slice_
      clear hmz hW
      have LP6 : Hidden (lp.length ≤ 1000000) := ⟨Nat.le_trans LP.out (by decide)⟩
      have LU6 : Hidden (lu.length ≤ 1000000) := ⟨Nat.le_trans LUP.out (by decide)⟩
      have LD6 : Hidden (ld.length ≤ 1000000) := ⟨Nat.le_trans LDN.out (by decide)⟩
      have LL6 : Hidden (l.length ≤ 1000000) := ⟨Nat.le_trans LL.out (by decide)⟩
      have Q := Hidden.mk (same06 (RB.out.isl.2) (R1.out) (LU6.out) (LU6.out))
      rw [decide_eq_true rfl] at Q
      go_wp2_with fail
      refine (Q.out).mono ?_
      rintro e wE ⟨rfl, q, hW⟩
      have hmz : Mod [] wD wE := by rw [hW]; exact (Mod.refl [] _).drewN q
      replace RB := Hidden.mk (RB.out.news hmz)
      replace RD := Hidden.mk (RD.out.news hmz)
      replace RC := Hidden.mk (RC.out.news hmz)
      replace RP := Hidden.mk (RP.out.news hmz)
      replace T1 := Hidden.mk (T1.out.news hmz)
      replace T2 := Hidden.mk (T2.out.news hmz)
      replace R1 := Hidden.mk (R1.out.news hmz)
      replace MA := Hidden.mk (MA.out.trans hmz (by simp))
      clear hmz hW
      clear Q
      have N1o := N1.out
      have N2o := N2.out
      obtain ⟨x1, hx1⟩ : ∃ z : Int, (n1 : Int) = z := ⟨_, rfl⟩
      obtain ⟨x2, hx2⟩ : ∃ z : Int, (n2 : Int) = z := ⟨_, rfl⟩
      rw [hx1] at N1o ⊢
      rw [hx2] at N2o ⊢
      obtain ⟨k1, hk1⟩ : ∃ m, (!decide ((v : Int) ∈ l)) = m := ⟨_, rfl⟩
      rw [hk1] at N1o ⊢
      obtain ⟨k2, hk2⟩ : ∃ m, decide ((v : Int) ∈ l) = m := ⟨_, rfl⟩
      rw [hk2] at N2o ⊢
      have hq1 : (k1 == k1) = true := by simp
      have hq2 : (k2 == k2) = true := by simp
      clear R1 T1 N1 N2 hk1 hk2 hn1 hn2 hx1 hx2
      go_wp2_with fail
      refine (list06 T2.out).mono ?_
      rintro e wF ⟨v2, rfl, hW⟩
      have hmz : Mod [] wE wF := hW.mod
      replace RB := Hidden.mk (RB.out.news hmz)
      replace RD := Hidden.mk (RD.out.news hmz)
      replace RC := Hidden.mk (RC.out.news hmz)
      replace RP := Hidden.mk (RP.out.news hmz)
      replace T2 := Hidden.mk (T2.out.news hmz)
      replace MA := Hidden.mk (MA.out.trans hmz (by simp))
      have R2 := Hidden.mk (hW.isl.2)
      rw [DN.out] at R2
      obtain ⟨p2, c2, rfl, _⟩ := R2.out.slice_
      clear hmz hW
      have Q := Hidden.mk (same06 (RC.out) (R2.out) (LD6.out) (LD6.out))
      rw [decide_eq_true rfl] at Q
      go_wp2_with fail
      refine (Q.out).mono ?_
      rintro e wG ⟨rfl, q, hW⟩
      have hmz : Mod [] wF wG := by rw [hW]; exact (Mod.refl [] _).drewN q
      replace RB := Hidden.mk (RB.out.news hmz)
      replace RD := Hidden.mk (RD.out.news hmz)
      replace RC := Hidden.mk (RC.out.news hmz)
      replace RP := Hidden.mk (RP.out.news hmz)
      replace T2 := Hidden.mk (T2.out.news hmz)
      replace R2 := Hidden.mk (R2.out.news hmz)
      replace MA := Hidden.mk (MA.out.trans hmz (by simp))
      clear hmz hW
      clear Q
      clear R2 RC T2
      have Q := Hidden.mk (same06 (RD.out.isl.2) (RP.out) (LP6.out) (LP6.out))
      rw [decide_eq_true rfl] at Q
      go_wp2_with fail
      refine (Q.out).mono ?_
      rintro e wH ⟨rfl, q, hW⟩
      have hmz : Mod [] wG wH := by rw [hW]; exact (Mod.refl [] _).drewN q
      replace RB := Hidden.mk (RB.out.news hmz)
      replace RD := Hidden.mk (RD.out.news hmz)
      replace RP := Hidden.mk (RP.out.news hmz)
      replace MA := Hidden.mk (MA.out.trans hmz (by simp))
      clear hmz hW
      clear Q
      clear RP
      have Q := Hidden.mk (same06 (FA.out.news MA.out) (FW.out.news MA.out) (LL6.out) (LL6.out))
      rw [decide_eq_true rfl] at Q
      go_wp2_with fail
      refine (Q.out).mono ?_
      rintro e wI ⟨rfl, q, hW⟩
      have hmz : Mod [] wH wI := by rw [hW]; exact (Mod.refl [] _).drewN q
      replace RB := Hidden.mk (RB.out.news hmz)
      replace RD := Hidden.mk (RD.out.news hmz)
      replace MA := Hidden.mk (MA.out.trans hmz (by simp))
      clear hmz hW
      clear Q
      go_wp2_with fail
      go_loopw [114] (fun vi wr => ∃ (i : Nat) (m : List Int), i ≤ lu.length ∧ vi = .int .i64 i ∧ m.length = lu.length ∧ Row wr 24 1 (.slice pb lu.length cb) lu.length (icells .u16 m) ∧ Row wr 24 1 (.slice pd lp.length cd) lp.length (icells .u16 lp) ∧ Mod [] wA wr) (fun vi _ => lu.length - (intOf vi).toNat)
      case atStart => exact ⟨0, lu, by omega, rfl, rfl, RB.out, RD.out, MA.out⟩
      case round =>
        obtain ⟨i, m, hi, rfl, hml, hr, hro, hma⟩ := hrel
        by_cases hin : i < lu.length
        · obtain ⟨g, cap, hve, hrb, _, _, hgl, hce, hfz⟩ := hr.at_ (by omega)
          injection hve with hv1 hv2 hv3
          subst hv1 hv3
          have hc := hce i (by omega)
          have hx : m[i]? = some (m.getD i 0) := by rw [List.getD_eq_getElem?_getD, List.getElem?_eq_getElem (by omega)]; rfl
          rw [icells_get hx] at hc
          have hf := hfz i
          have hgA := hbA.out g (by rw [hrb]; simp)
          generalize m.getD i 0 = x at hc
          have HK := Hidden.mk (And.intro hr (And.intro hml (And.intro hma (And.intro hgA (And.intro hro (fun h => hbd.out g h (by rw [hrb]; simp) : g ∉ rb (.slice pd lp.length cd)))))))
          clear hr hml hma hce hfz hx hrb hgA hro
          go_wp2_with fail
          go_roundw
          case rel => exact ⟨i + 1, m.set i _, by omega, by go_num, by rw [List.length_set]; exact HK.out.2.1, HK.out.1.bump i _, HK.out.2.2.2.2.1.far HK.out.2.2.2.2.2 _, HK.out.2.2.1.set (.inr HK.out.2.2.2.1) _⟩
          case measure => simp [intOf]; omega
        · replace MA := Hidden.mk hma
          replace RD := Hidden.mk hro
          clear hro
          have hie : i = lu.length := by omega
          subst hie
          clear hr hml hma hi hin
          go_wp2_with fail
          go_loopw [126] (fun vi wr => ∃ (i : Nat) (m : List Int), i ≤ lp.length ∧ vi = .int .i64 i ∧ m.length = lp.length ∧ Row wr 24 1 (.slice pd lp.length cd) lp.length (icells .u16 m) ∧ Mod [] wA wr) (fun vi _ => lp.length - (intOf vi).toNat)
          case atStart => exact ⟨0, lp, by omega, rfl, rfl, RD.out, MA.out⟩
          case round =>
            obtain ⟨i, m, hi, rfl, hml, hr, hma⟩ := hrel
            by_cases hin : i < lp.length
            · obtain ⟨g, cap, hve, hrb, _, _, hgl, hce, hfz⟩ := hr.at_ (by omega)
              injection hve with hv1 hv2 hv3
              subst hv1 hv3
              have hc := hce i (by omega)
              have hx : m[i]? = some (m.getD i 0) := by rw [List.getD_eq_getElem?_getD, List.getElem?_eq_getElem (by omega)]; rfl
              rw [icells_get hx] at hc
              have hf := hfz i
              have hgA := hdA.out g (by rw [hrb]; simp)
              generalize m.getD i 0 = x at hc
              have HK := Hidden.mk (And.intro hr (And.intro hml (And.intro hma hgA)))
              clear hr hml hma hce hfz hx hrb hgA
              go_wp2_with fail
              go_roundw
              case rel => exact ⟨i + 1, m.set i _, by omega, by go_num, by rw [List.length_set]; exact HK.out.2.1, HK.out.1.bump i _, HK.out.2.2.1.set (.inr HK.out.2.2.2) _⟩
              case measure => simp [intOf]; omega
            · replace MA := Hidden.mk hma
              skip
              have hie : i = lp.length := by omega
              subst hie
              clear hr hml hma hi hin
              have Q := Hidden.mk (same06 (FA.out.news MA.out) (FW.out.news MA.out) (LL6.out) (LL6.out))
              rw [decide_eq_true rfl] at Q
              go_wp2_with fail
              refine Q.out.mono ?_
              rintro e wZ ⟨rfl, q, hW⟩
              have HF := Hidden.mk ((HM.out.trans (MA.out.trans (c := wZ) (S := []) (T := []) (by rw [hW]; exact (Mod.refl [] _).drewN q) (by simp)) (by simp)))
              clear hW Q
              go_wp2_with fail
              go_ret
              exact ⟨rfl, HF.out.below (Nat.le_refl _) (by simp)⟩
end Go.Proofs.Ythcjnijggebcaaa
