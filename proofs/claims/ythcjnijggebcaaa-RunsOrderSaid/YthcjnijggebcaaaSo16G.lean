/- pdqsortOrdered and Sort at uint16: a sorted permutation. -/
import Derived.Test.YthcjnijggebcaaaSo16C
import Derived.Test.YthcjnijggebcaaaSo16E
import Derived.Test.YthcjnijggebcaaaSo16F
namespace Go.Proofs.Ythcjnijggebcaaa
open Go.RowKit
set_option linter.unusedVariables false
set_option linter.unusedSimpArgs false

/-- What a call of it says. -/
def PdqPost16 (sz b o n : Nat) (w0 : World) (a c : Nat) (d : Array Int) (e : Ending) (w' : World) : Prop :=
  e = .returned (.tuple #[]) ∧ ∃ d', Sort.PermIn a c d d' ∧ Sort.SortedIn Sort.ltInt a c d' ∧ SR .u16 24 sz b o n w0 w' d'
set_option maxHeartbeats 4000000 in
set_option maxRecDepth 100000 in
theorem pdq16 {b o n sz cap : Nat} {w0 : World} (hn : n ≤ 1000000000) (k : Nat) : ∀ (a c lim : Nat) (d : Array Int) (w : World), c - a = k → a ≤ c → c ≤ n → lim ≤ 64 → SR .u16 24 sz b o n w0 w d → Sort.Below Sort.ltInt a c d →
    Calls Try.prog 95 #[.slice (some ⟨b, o, none⟩) n cap, .int .i64 a, .int .i64 c, .int .i64 lim] w (PdqPost16 sz b o n w0 a c d) := by
  induction k using Nat.strongRecOn with
  | _ k ih =>
  intro a c lim d w hk hac hc hlim h hB
  have IH := Hidden.mk ih
  clear ih
  go_enter Try.func95, Try.ntmps95
  go_wp2_with fail
  go_loopw [1, 2, 3, 8, 9] (fun va vc vl vb vp wr => ∃ (x y l : Nat) (wb wp : Bool) (dk : Array Int), va = .int .i64 x ∧ vc = .int .i64 y ∧ vl = .int .i64 l ∧ vb = .bool wb ∧ vp = .bool wp ∧ a ≤ x ∧ x ≤ y ∧ y ≤ c ∧ l ≤ 64 ∧
      SR .u16 24 sz b o n w0 wr dk ∧ Sort.Below Sort.ltInt x y dk ∧ (∀ R, Sort.PermIn x y dk R → Sort.SortedIn Sort.ltInt x y R → Sort.PermIn a c d R ∧ Sort.SortedIn Sort.ltInt a c R)) (fun va vc _ _ _ _ => (intOf vc - intOf va).toNat)
  case atStart => exact ⟨a, c, lim, true, true, d, rfl, rfl, rfl, rfl, rfl, Nat.le_refl _, hac, Nat.le_refl _, hlim, h, hB, fun R h1 h2 => ⟨h1, h2⟩⟩
  case round =>
    obtain ⟨x, y, l, wb, wp, dk, rfl, rfl, rfl, rfl, rfl, hx, hxy, hy, hl, hS, hBk, hCL⟩ := hrel
    have HS := Hidden.mk hS
    have HB := Hidden.mk hBk
    have HCL := Hidden.mk hCL
    have hsz : Hidden (dk.size = n) := ⟨hS.size⟩
    clear hS hBk hCL h hB
    by_cases h12 : y - x ≤ 12
    · have h12z : (y : Int) - (x : Int) ≤ 12 := by omega
      go_wp2_with fail
      refine (ins16 x y HS.out hxy (by omega) hn).mono ?_
      rintro e w1 ⟨rfl, hS1⟩
      have HS1 := Hidden.mk hS1
      clear hS1
      go_wp2_with fail
      (try simp only [Exit.inBlock, Exit.then])
      refine bodyPost_ret (results_none rfl _ _ _) rfl ?_
      obtain ⟨q1, q2⟩ := Sort.insertionSort_holds (lt := Sort.ltInt) Sort.swo_ltInt dk x y hxy (by rw [hsz.out]; omega)
      obtain ⟨r1, r2⟩ := HCL.out _ q1 q2
      exact ⟨rfl, _, r1, r2, HS1.out⟩
    · have h12z : ¬ (y : Int) - (x : Int) ≤ 12 := by omega
      by_cases hl0 : l = 0
      · have hlz : ((l : Int) == 0) = true := by simp [hl0]
        go_wp2_with fail
        refine (heap16 x y HS.out hxy (by omega) hn).mono ?_
        rintro e w1 ⟨rfl, hS1⟩
        have HS1 := Hidden.mk hS1
        clear hS1
        go_wp2_with fail
        (try simp only [Exit.inBlock, Exit.then])
        refine bodyPost_ret (results_none rfl _ _ _) rfl ?_
        obtain ⟨q1, q2⟩ := Sort.heapSort_holds (lt := Sort.ltInt) Sort.swo_ltInt dk x y hxy (by rw [hsz.out]; omega)
        obtain ⟨r1, r2⟩ := HCL.out _ q1 q2
        exact ⟨rfl, _, r1, r2, HS1.out⟩
      · have hlz : ((l : Int) == 0) = false := by simp; omega
        go_upto_if 35 with fail
        go_cut [3] from 36 to 41 (fun vl wx => ∃ (l' : Nat) (d1 : Array Int), vl = .int .i64 l' ∧ l' ≤ 64 ∧ Sort.PermIn x y dk d1 ∧ SR .u16 24 sz b o n w0 wx d1)
        case first =>
          cases wb
          · go_wp2_with fail
            refine (brk16 x y HS.out (by omega) (by omega) hn).mono ?_
            rintro e w1 ⟨rfl, d1, hp1, hS1⟩
            have HS1 := Hidden.mk hS1
            have HP1 := Hidden.mk hp1
            clear hS1 hp1
            go_wp2_with fail
            go_meet
            exact ⟨l - 1, d1, by congr 1; omega, by omega, HP1.out, HS1.out⟩
          · go_wp2_with fail
            go_meet
            exact ⟨l, dk, rfl, hl, Sort.permIn_refl _ _ _, HS.out⟩
        case rest =>
          obtain ⟨l2, d1, rfl, hl2, hp1, hS1⟩ := hcut
          have HS1 := Hidden.mk hS1
          have HP1 := Hidden.mk hp1
          clear hS1 hp1
          go_wp2_with fail
          refine (piv16 x y HS1.out (by omega) (by omega) hn).mono ?_
          rintro e w2 ⟨p, t, rfl, hp1, hp2, hS2⟩
          have HS2 := Hidden.mk hS2
          clear hS2
          go_upto_if 50 with fail
          go_cut [11, 12] from 42 to 60 (fun vp vt wx => ∃ (p' : Nat) (t' : Int) (d2 : Array Int), vp = .int .i64 p' ∧ vt = .int .i64 t' ∧ x ≤ p' ∧ p' < y ∧ Sort.PermIn x y dk d2 ∧ SR .u16 24 sz b o n w0 wx d2)
          case first =>
            by_cases ht : t = 2
            · have htz : (t == 2) = true := by simp [ht]
              go_wp2_with fail
              refine (rev16 x y HS2.out (by omega) (by omega) hn).mono ?_
              rintro e w3 ⟨rfl, hS3⟩
              have HS3 := Hidden.mk hS3
              clear hS3
              go_wp2_with fail
              go_meet
              exact ⟨(y - 1) - (p - x), 1, _, by congr 1; omega, rfl, by omega, by omega, Sort.permIn_trans _ _ _ _ _ HP1.out (Sort.reverseRange_holds _ _ _ hxy (by rw [HS2.out.size]; omega)), HS3.out⟩
            · have htz : (t == 2) = false := by simp [ht]
              go_wp2_with fail
              go_meet
              exact ⟨p, t, d1, rfl, rfl, hp1, hp2, HP1.out, HS2.out⟩
          case rest =>
            obtain ⟨q, u, d2, rfl, rfl, hq1, hq2, hp2', hS3⟩ := hcut
            have HS3 := Hidden.mk hS3
            have HP2 := Hidden.mk hp2'
            clear hS3 hp2'
            go_upto_region 15 with fail
            go_cut [68] from 61 to 67 (fun v wx => (∃ g : Bool, v = .bool g) ∧ SR .u16 24 sz b o n w0 wx d2)
            case first =>
              cases wb <;> cases wp
              all_goals
                go_wp2_with fail
                go_meet
                exact ⟨⟨_, rfl⟩, HS3.out⟩
            case rest =>
            obtain ⟨⟨g, rfl⟩, hS3⟩ := hcut
            have HS3 := Hidden.mk hS3
            clear hS3
            go_upto_if 68 with fail
            go_cut [] from 69 to 72 (fun wx => ∃ d3 : Array Int, Sort.PermIn x y dk d3 ∧ SR .u16 24 sz b o n w0 wx d3)
            case first =>
              cases g
              · go_wp2_with fail
                go_meet
                exact ⟨d2, HP2.out, HS3.out⟩
              · have hB2 := HB.out.perm (by rw [hsz.out]; omega) HP2.out
                have hpi := Sort.partialInsertionSort_holds (lt := Sort.ltInt) Sort.swo_ltInt d2 x y (by omega) (by rw [HS3.out.size]; omega) hB2
                have HPI := Hidden.mk hpi
                clear hpi hB2
                go_wp2_with fail
                refine (pins16 x y HS3.out (by omega) (by omega) hn).mono ?_
                rintro e w4 ⟨rfl, hS4⟩
                have HS4 := Hidden.mk hS4
                clear hS4
                cases hdone : (Sort.partialInsertionSort Sort.ltInt d2 x y).2 with
                | false =>
                  clear hdone
                  go_wp2_with fail
                  go_meet
                  exact ⟨_, Sort.permIn_trans _ _ _ _ _ HP2.out HPI.out.1, HS4.out⟩
                | true =>
                  have HDN := Hidden.mk hdone
                  clear hdone
                  go_wp2_with fail
                  (try simp only [Exit.inBlock, Exit.then])
                  refine bodyPost_ret (results_none rfl _ _ _) rfl ?_
                  obtain ⟨r1, r2⟩ := HCL.out _ (Sort.permIn_trans _ _ _ _ _ HP2.out HPI.out.1) (HPI.out.2 HDN.out)
                  exact ⟨rfl, _, r1, r2, HS4.out⟩
            case rest =>
              obtain ⟨d3, hp3, hS4⟩ := hcut
              have hB3 := HB.out.perm (by rw [hsz.out]; omega) hp3
              have hz3 : d3.size = n := hS4.size
              obtain ⟨G, hG, hcw, hfw⟩ := hS4.fam
              have HG := Hidden.mk hG
              have HS4 := Hidden.mk hS4
              have HB3 := Hidden.mk hB3
              have HP3 := Hidden.mk hp3
              have HZ3 := Hidden.mk hz3
              clear hG hS4 hB3 hp3 hz3 HS HS1 HS2 HS3 HP1 HP2
              have PART : Hidden (∀ (W : World), SR .u16 24 sz b o n w0 W d3 → Calls Try.prog 115 #[.slice (some ⟨b, o, none⟩) n cap, .int .i64 x, .int .i64 y, .int .i64 q] W fun e w' => ∃ (mid : Nat) (ap : Bool) (d4 : Array Int),
                  e = .returned (.tuple #[.int .i64 mid, .bool ap]) ∧ SR .u16 24 sz b o n w0 w' d4 ∧ x ≤ mid ∧ mid < y ∧ Sort.Below Sort.ltInt x mid d4 ∧ Sort.Below Sort.ltInt (mid + 1) y d4 ∧
                  (∀ L, Sort.PermIn x mid d4 L → Sort.SortedIn Sort.ltInt x mid L → Sort.Below Sort.ltInt (mid + 1) y L ∧ ∀ R, Sort.PermIn (mid + 1) y L R → Sort.SortedIn Sort.ltInt (mid + 1) y R → Sort.PermIn a c d R ∧ Sort.SortedIn Sort.ltInt a c R) ∧
                  (∀ L, Sort.PermIn (mid + 1) y d4 L → Sort.SortedIn Sort.ltInt (mid + 1) y L → Sort.Below Sort.ltInt x mid L ∧ ∀ R, Sort.PermIn x mid L R → Sort.SortedIn Sort.ltInt x mid R → Sort.PermIn a c d R ∧ Sort.SortedIn Sort.ltInt a c R)) := ⟨fun W hW => by
                refine (part16 x y q hW hq1 hq2 (by omega) hn).mono ?_
                rintro e w' ⟨rfl, hS⟩
                obtain ⟨g1, g2, g3, g4, g5, g6, g7⟩ := Sort.round_part (lt := Sort.ltInt) (mid := (Sort.partition Sort.ltInt d3 x y q).1) (ap := (Sort.partition Sort.ltInt d3 x y q).2.1) (d4 := (Sort.partition Sort.ltInt d3 x y q).2.2) Sort.swo_ltInt (Sort.partition_holds _) hq1 hq2 (by rw [HZ3.out]; omega) HB3.out rfl
                refine ⟨_, _, _, rfl, hS, g1, g2, g4, g5, fun L h1 h2 => ?_, fun L h1 h2 => ?_⟩
                · exact ⟨(g6 L h1 h2).1, fun R h3 h4 => HCL.out R (Sort.permIn_trans _ _ _ _ _ HP3.out ((g6 L h1 h2).2 R h3 h4).1) ((g6 L h1 h2).2 R h3 h4).2⟩
                · exact ⟨(g7 L h1 h2).1, fun R h3 h4 => HCL.out R (Sort.permIn_trans _ _ _ _ _ HP3.out ((g7 L h1 h2).2 R h3 h4).1) ((g7 L h1 h2).2 R h3 h4).2⟩⟩
              have PEQ : Hidden (∀ (W : World), 0 < x → Sort.ltInt d3[x - 1]! d3[q]! = false → SR .u16 24 sz b o n w0 W d3 → Calls Try.prog 114 #[.slice (some ⟨b, o, none⟩) n cap, .int .i64 x, .int .i64 y, .int .i64 q] W fun e w' => ∃ (mid : Nat) (d4 : Array Int),
                  e = .returned (.int .i64 mid) ∧ SR .u16 24 sz b o n w0 w' d4 ∧ x < mid ∧ mid ≤ y ∧ Sort.Below Sort.ltInt mid y d4 ∧
                  (∀ R, Sort.PermIn mid y d4 R → Sort.SortedIn Sort.ltInt mid y R → Sort.PermIn a c d R ∧ Sort.SortedIn Sort.ltInt a c R)) := ⟨fun W h0 hnl hW => by
                refine (parteq16 x y q hW hq1 hq2 (by omega) hn).mono ?_
                rintro e w' ⟨rfl, hS⟩
                obtain ⟨g1, g2, g3, g4, g5⟩ := Sort.round_eq (lt := Sort.ltInt) (mid := (Sort.partitionEqual Sort.ltInt d3 x y q).1) (d4 := (Sort.partitionEqual Sort.ltInt d3 x y q).2) Sort.swo_ltInt (Sort.partitionEqual_holds _) h0 hq1 hq2 (by rw [HZ3.out]; omega) HB3.out hnl rfl
                exact ⟨_, _, rfl, hS, g1, g2, g4, fun R h1 h2 => HCL.out R (Sort.permIn_trans _ _ _ _ _ HP3.out (g5 R h1 h2).1) (g5 R h1 h2).2⟩⟩
              go_upto_region 17 with fail
              go_cut [87] from 73 to 86 (fun v wx => ∃ g : Bool, v = .bool g ∧ SR .u16 24 sz b o n w0 wx d3 ∧ (g = true → 0 < x ∧ Sort.ltInt d3[x - 1]! d3[q]! = false))
              case first =>
                by_cases hx0 : x = 0
                · have hxz : decide ((0 : Int) < (x : Int)) = false := decide_eq_false (by omega)
                  have hxn : decide (0 < x) = false := decide_eq_false (by omega)
                  go_quiet (first | (go_at_call 97; refine Calls.quiet_of_same (less16 _ _ _)))
                  go_wp2_with fail
                  go_meet
                  exact ⟨false, rfl, HS4.out.drewN _, by simp⟩
                · have hxz : (0 : Int) < (x : Int) := by omega
                  have hxn : 0 < x := by omega
                  have hxd : decide (0 < x) = true := decide_eq_true hxn
                  go_quiet (first | (go_at_call 97; refine Calls.quiet_of_same (less16 _ _ _)))
                  go_wp2_with fail
                  go_meet
                  refine ⟨!Sort.ltInt (G (x - 1)) (G q), rfl, HS4.out.drewN _, fun hh => ⟨by omega, ?_⟩⟩
                  rw [← HG.out _ _ rfl, ← HG.out _ _ rfl]
                  simpa using hh
              case rest =>
                obtain ⟨g, rfl, hS5, hg⟩ := hcut
                have HS5 := Hidden.mk hS5
                clear hS5 hcw hfw
                cases g
                · clear hg PEQ
                  go_wp2_with fail
                  refine (PART.out _ HS5.out).mono ?_
                  rintro e w6 ⟨mid, ap, d4, rfl, hS6, m1, m2, b1, b2, c1, c2⟩
                  have HS6 := Hidden.mk hS6
                  have B1 := Hidden.mk b1
                  have B2 := Hidden.mk b2
                  have C1 := Hidden.mk c1
                  have C2 := Hidden.mk c2
                  clear hS6 b1 b2 c1 c2 PART
                  by_cases hlr : mid - x < y - mid
                  · have hlrz : (mid : Int) - (x : Int) < (y : Int) - (mid : Int) := by omega
                    go_wp2_with fail
                    refine (IH.out (mid - x) (by omega) x mid l2 d4 _ rfl m1 (by omega) hl2 HS6.out B1.out).mono ?_
                    rintro e w7 ⟨rfl, d5, q1, q2, hS7⟩
                    have HS7 := Hidden.mk hS7
                    have Q := Hidden.mk (C1.out d5 q1 q2)
                    clear hS7 q1 q2
                    go_wp2_with fail
                    go_roundw
                    case rel => exact ⟨mid + 1, y, l2, _, ap, d5, by go_num, rfl, rfl, rfl, rfl, by omega, by omega, hy, hl2, HS7.out, Q.out.1, Q.out.2⟩
                    case measure => simp [intOf]; omega
                  · have hlrz : ¬ (mid : Int) - (x : Int) < (y : Int) - (mid : Int) := by omega
                    go_wp2_with fail
                    rw [show ((mid : Int) + 1) = ((mid + 1 : Nat) : Int) by omega]
                    refine (IH.out (y - (mid + 1)) (by omega) (mid + 1) y l2 d4 _ rfl (by omega) (by omega) hl2 HS6.out B2.out).mono ?_
                    rintro e w7 ⟨rfl, d5, q1, q2, hS7⟩
                    have HS7 := Hidden.mk hS7
                    have Q := Hidden.mk (C2.out d5 q1 q2)
                    clear hS7 q1 q2
                    go_wp2_with fail
                    go_roundw
                    case rel => exact ⟨x, mid, l2, _, ap, d5, rfl, rfl, rfl, rfl, rfl, hx, m1, by omega, hl2, HS7.out, Q.out.1, Q.out.2⟩
                    case measure => simp [intOf]; omega
                · obtain ⟨hx0, hnl⟩ := hg rfl
                  have HNL := Hidden.mk hnl
                  clear hnl hg PART
                  go_wp2_with fail
                  refine (PEQ.out _ hx0 HNL.out HS5.out).mono ?_
                  rintro e w6 ⟨mid, d4, rfl, hS6, m1, m2, b1, c1⟩
                  have HS6 := Hidden.mk hS6
                  have B1 := Hidden.mk b1
                  have C1 := Hidden.mk c1
                  clear hS6 b1 c1 PEQ
                  go_wp2_with fail
                  go_roundw
                  case rel => exact ⟨mid, y, l2, wb, wp, d4, rfl, rfl, rfl, rfl, rfl, by omega, m2, hy, hl2, HS6.out, B1.out, C1.out⟩
                  case measure => simp [intOf]; omega
end Go.Proofs.Ythcjnijggebcaaa
