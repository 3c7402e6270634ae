/- The law RunsOrder: its walk. -/
import Derived.Test.YthcjnijggebcaaaRuns14
import Derived.Test.YthcjnijggebcaaaFew06
namespace Go.Proofs.Ythcjnijggebcaaa
open Go.RowKit
set_option linter.unusedVariables false
set_option linter.unusedSimpArgs false
theorem run_eq (a b : Int) (w : World) : (Op.equalIn 10000 34 (.agg #[.int .u16 a, .int .u16 b]) (.agg #[.int .u16 a, .int .u16 b])).run Try.prog w = .ok true w := by
  have hS : Try.prog.underlying 34 = some (.struct (Try.prog.fieldsOf 34)) := by kernel_rfl
  have hp : Try.prog.stoodInHeld 34 = false := by kernel_rfl
  rw [show (10000 : Nat) = 9999 + 1 from rfl, run_equalIn_agg w 9999 34 _ _ hS hp]
  simp only [Program.fieldsOf, Try.underlying34]
  go_simp
theorem run_guard (op : BinOp) (A B : Operand) (x y : Array Value) (w : World) : (eqGuard op 34 A B (.agg x) (.agg y)).run Try.prog w = .ok () w := run_eqGuard_agg w op _ A B x y (by kernel_rfl)
/-- Turned round, and about. -/
def turned (L : List Int) (t : Nat) (i : Nat) : List Int := (List.range i).map (fun i => L.getD ((L.length - 1 - i + t) % L.length) 0)
theorem turned_snoc (L : List Int) (t i : Nat) : turned L t (i + 1) = turned L t i ++ [L.getD ((L.length - 1 - i + t) % L.length) 0] := by simp [turned, List.range_succ]
theorem turned_len (L : List Int) (t i : Nat) : (turned L t i).length = i := by simp [turned]
theorem turn_nat {n t j : Nat} (hj : j < n) : (n - 1 - (n - 1 + t + n - j) % n + t) % n = j := by
  have hi : (n - 1 + t + n - j) % n < n := Nat.mod_lt _ (by omega)
  have hq := Nat.div_add_mod (n - 1 + t + n - j) n
  generalize (n - 1 + t + n - j) % n = i at *
  generalize (n - 1 + t + n - j) / n = q at *
  cases q with
  | zero => simp at hq; omega
  | succ q =>
    rw [Nat.mul_succ] at hq
    have e2 : n - 1 - i + t = n * q + j := by omega
    rw [e2, Nat.mul_add_mod, Nat.mod_eq_of_lt (by omega)]
theorem turned_mem {L : List Int} {t : Nat} {x : Int} : x ∈ turned L t L.length ↔ x ∈ L := by
  unfold turned
  simp only [List.mem_map, List.mem_range]
  constructor
  · rintro ⟨i, hi, rfl⟩
    have hlt : (L.length - 1 - i + t) % L.length < L.length := Nat.mod_lt _ (by omega)
    rw [List.getD_eq_getElem?_getD, List.getElem?_eq_getElem hlt]
    exact List.getElem_mem _
  · intro hx
    obtain ⟨j, hj, rfl⟩ := List.getElem_of_mem hx
    refine ⟨(L.length - 1 + t + L.length - j) % L.length, Nat.mod_lt _ (by omega), ?_⟩
    rw [turn_nat hj, List.getD_eq_getElem?_getD, List.getElem?_eq_getElem hj]; rfl
theorem RF.one {l m : List (Int × Int)} {f : Nat → Bool} (h : RF l f) (k : RF m f) : l = m := by
  refine h.rn.ext k.rn (fun x => ?_)
  constructor
  · intro hx
    obtain ⟨p, hp, h1, h2⟩ := id hx
    have := h.b16 p hp
    obtain ⟨n, rfl⟩ := Int.eq_ofNat_of_zero_le (show 0 ≤ x by omega)
    exact (k.mem n (by unfold Most; omega)).1 ((h.mem n (by unfold Most; omega)).2 hx)
  · intro hx
    obtain ⟨p, hp, h1, h2⟩ := id hx
    have := k.b16 p hp
    obtain ⟨n, rfl⟩ := Int.eq_ofNat_of_zero_le (show 0 ≤ x by omega)
    exact (h.mem n (by unfold Most; omega)).1 ((k.mem n (by unfold Most; omega)).2 hx)
theorem addF_ext {f : Nat → Bool} {a b : List Int} (h : ∀ x, x ∈ a ↔ x ∈ b) : addF f a = addF f b := by
  funext j; unfold addF; rw [decide_eq_decide.2 (h j)]
theorem drop_all {a : List Int} : dropF (addF (fun _ => false) a) a = fun _ => false := by
  funext j; unfold dropF addF; simp
set_option maxHeartbeats 4000000 in
set_option maxRecDepth 100000 in
theorem runsOrder_walk (a0 : Option Addr) (len0 cap0 : Nat) (z0 : List Int) (a1 : Int) (w : World) (w0 : IntRow .u16 w a0 len0 cap0 z0) (y0 : len0 * 2 ≤ 140737488351232) (w1 : (Lit.int .u8 a1).wf = true) :
    Calls Try.prog 4 #[.slice a0 len0 cap0, .int .u8 a1] w fun e w' => e = .returned (.bool true) ∧ Below w.heap.size w w' := by
  obtain ⟨hsl, hlen⟩ := w0.isl
  have hb0 := w0.bnds
  have HSL := Hidden.mk (And.intro hsl hlen)
  obtain ⟨ht0, ht1⟩ := bounds_u8 w1
  obtain ⟨t, rfl⟩ := Int.eq_ofNat_of_zero_le ht0
  have HB : Hidden (∀ x ∈ (z0.take len0).take 60, 0 ≤ x ∧ x < 65536) := ⟨fun x hx => wf_u16 (hb0 x (List.mem_of_mem_take (List.mem_of_mem_take hx)))⟩
  have HLN : Hidden (((z0.take len0).take 60).length ≤ 60 ∧ min (z0.take len0).length 60 = ((z0.take len0).take 60).length) := ⟨by simp; omega, by simp; omega⟩
  have htw : IntKind.i64.wrap (t : Int) = t := IntWalk.i64_in _ (by omega)
  have e1 : (z0.take len0).length = len0 := hlen
  clear hsl hlen hb0 w0 w1 ht0
  go_enter Try.func4, Try.ntmps4
  go_wp2_with fail
  refine (awake08 _).mono ?_
  rintro e w1 ⟨rfl, hm1⟩
  have H1 := few06_call 60 (by decide) _ _ w1 (HSL.out.1.news hm1)
  rw [HSL.out.2] at H1
  have HF := Hidden.mk H1
  have HM1 := Hidden.mk hm1
  clear hm1 H1
  go_wp2_with fail
  refine HF.out.mono ?_
  rintro e w2 ⟨v2, rfl, hW2⟩
  have HM2 := Hidden.mk (HM1.out.trans hW2.mod (by simp))
  obtain ⟨hn2, hi2⟩ := hW2.isl
  have hln := HLN.out.1
  generalize (z0.take len0).take 60 = L at *
  obtain ⟨a2, c2, rfl, _⟩ := hi2.slice_
  have HI2 := Hidden.mk hi2
  clear hW2 hn2 hi2 HF HM1 HLN HSL e1
  go_wp2_with fail
  go_loopw [5, 6, 16] (fun vo _ vi wr => ∃ i : Nat, i ≤ L.length ∧ vi = .int .i64 i ∧ WayI .u16 24 w2 wr vo i (turned L t i)) (fun _ _ vi _ => L.length - (intOf vi).toNat)
  case atStart => exact ⟨0, by omega, rfl, WayI.nil_ (Mod.refl [] w2)⟩
  case round =>
    obtain ⟨i, hi, rfl, hW⟩ := hrel
    by_cases hin : i < L.length
    · have hlt : (L.length - 1 - i + t) % L.length < L.length := Nat.mod_lt _ (by omega)
      obtain ⟨b, off, x, rfl, hbl, hx, hcell⟩ := (HI2.out.news hW.mod).get hlt
      have E := Hidden.mk (show turned L t (i + 1) = turned L t i ++ [x] from by rw [turned_snoc, List.getD_eq_getElem?_getD, hx]; rfl)
      have hz : ((L.length : Int) - 1 - (i : Int) + (t : Int)) % (L.length : Int) = (((L.length - 1 - i + t) % L.length : Nat) : Int) := by
        rw [show (L.length : Int) - 1 - (i : Int) + (t : Int) = ((L.length - 1 - i + t : Nat) : Int) from by omega]; rfl
      have hw1 : IntKind.i64.wrap ((L.length : Int) - 1) = (L.length : Int) - 1 := IntWalk.i64_in _ (by omega)
      have hw2 : IntKind.i64.wrap ((L.length : Int) - 1 - (i : Int)) = (L.length : Int) - 1 - (i : Int) := IntWalk.i64_in _ (by omega)
      have hw3 : IntKind.i64.wrap ((L.length : Int) - 1 - (i : Int) + (t : Int)) = (L.length : Int) - 1 - (i : Int) + (t : Int) := IntWalk.i64_in _ (by omega)
      have hlt2 := Hidden.mk hlt
      generalize (L.length - 1 - i + t) % L.length = m at *
      have hd := Hidden.mk (icells_snoc .u16 (turned L t i) x)
      have hw4 := Hidden.mk (hW.alloc (.cells #[.int .u16 x] 24))
      have hn1 := Hidden.mk (holds_one wr (.int .u16 x) 24 rfl)
      have hne : ((L.length : Int) == 0) = false := beq_eq_false_iff_ne.2 (by omega)
      have hlt0 : (0 : Int) < (L.length : Int) := by omega
      have hmz : (m : Int) < (L.length : Int) := by have := hlt2.out; omega
      have hsz : (0 : Int) ≤ (L.length : Int) - 1 - (i : Int) + (t : Int) := by omega
      clear hx hW
      go_wp2_with (refine wpList_any rfl (.tmp 19) (.tmp 34) 22 rfl 24 (.int .u16 0) 1 2 (by kernel_rfl) u1606 rfl (by decide) _ _ _ rfl hw4.out.row _ _ _ rfl hn1.out (by simp [Value.oneCell']) (by omega) (by omega) ?_; intro b4 c4 w4 hr4 hm4 hf4; have hW4 := Hidden.mk (hw4.out.next hr4 hm4 hf4 hd.out); clear hr4 hm4 hf4 hw4)
      go_roundw
      case rel => exact ⟨i + 1, by omega, by go_num, by rw [E.out]; exact hW4.out⟩
      case measure => simp [intOf]; omega
    · have e : i = L.length := by omega
      subst e
      have HX := Hidden.mk (fun x => turned_mem (L := L) (t := t) (x := x))
      have hi3 := hW.isl.2
      have hM3 := Hidden.mk (HM2.out.trans hW.mod (by simp))
      have HBK : Hidden (∀ x ∈ turned L t L.length, 0 ≤ x ∧ x < 65536) := ⟨fun x hx => HB.out x (turned_mem.1 hx)⟩
      have hlk : (turned L t L.length).length ≤ 60 := by rw [turned_len]; exact hln
      have hi2 := HI2.out.news hW.mod
      have HLK := Hidden.mk (turned_len L t L.length)
      generalize turned L t L.length = K at *
      obtain ⟨a3, c3, rfl, _⟩ := hi3.slice_
      have HI3 := Hidden.mk hi3
      have HK1 := Hidden.mk (addm_runs (RSl.nil_ wr) RF.empty hi2 HB.out (by omega))
      have HI4 := Hidden.mk hi2
      clear hW hi3 hi2
      go_wp2_with fail
      refine HK1.out.mono ?_
      rintro e w4 ⟨v4, la, rfl, hW4, hRa⟩
      have HK2 := Hidden.mk (addm_runs (RSl.nil_ w4) RF.empty (HI3.out.news hW4.mod) HBK.out (by omega))
      have HA := Hidden.mk (And.intro hW4.rsl hRa)
      have HM4 := Hidden.mk hW4.mod
      obtain ⟨a4, c4, rfl, _⟩ := hW4.slice_
      clear hW4 hRa HK1
      go_wp2_with fail
      refine HK2.out.mono ?_
      rintro e w5 ⟨v5, lb, rfl, hW5, hRb⟩
      obtain rfl : la = lb := HA.out.2.one (by rw [addF_ext (fun x => (HX.out x).symm)]; exact hRb)
      have HA5 := Hidden.mk (HA.out.1.news hW5.mod)
      have HB5 := Hidden.mk hW5.rsl
      have HM5 := Hidden.mk (HM4.out.trans hW5.mod (by simp))
      obtain ⟨a5, c5, rfl, _⟩ := hW5.slice_
      have hsh := HA.out.2.short
      have hnn : ((la.length : Int) != (la.length : Int)) = false := by simp
      have HR := Hidden.mk HA.out.2
      clear hW5 hRb HK2 HA HM4
      go_wp2_with fail
      go_loopw [9, 48] (fun _ vi wx => ∃ (i q : Nat), i ≤ la.length ∧ vi = .int .i64 i ∧ wx = w5.drewN q) (fun _ vi _ => la.length - (intOf vi).toNat)
      case atStart => exact ⟨0, 0, by omega, rfl, rfl⟩
      case round =>
        obtain ⟨i, q, hi, rfl, rfl⟩ := hrel
        by_cases hin : i < la.length
        · obtain ⟨b, off, p, q1, rfl, hbl, hx, hc1, hc2⟩ := HA5.out.get (i := i) hin
          obtain ⟨b2, off2, p2, q2, rfl, hbl2, hx2, hd1, hd2⟩ := HB5.out.get (i := i) hin
          rw [hx] at hx2; injection hx2 with hx2; injection hx2 with h1 h2; subst h1 h2
          have hkg := fun op A B x y w => run_guard op A B x y w
          have hkn : ∀ w, (Op.equalIn 10000 34 (.agg #[.int .u16 p, .int .u16 q1]) (.agg #[.int .u16 p, .int .u16 q1])).run Try.prog w = .ok true w := fun w => run_eq p q1 w
          clear hx
          go_wp2_with fail
          go_quiet (fail)
          go_wp2_with fail
          go_roundw
          case rel => exact ⟨i + 1, _, by omega, by go_num, rfl⟩
          case measure => simp [intOf]; omega
        · have e : i = la.length := by omega
          have HAx := Hidden.mk (HA5.out.news ((Mod.refl [] w5).drewN q))
          have HMx := Hidden.mk (HM5.out.drewN q)
          have HK1 := Hidden.mk (is_runs HAx.out HR.out.b16 (by omega))
          have HOK := Hidden.mk (ok_rn.2 HR.out.rn)
          subst e
          clear hin
          go_wp2_with fail
          refine HK1.out.mono ?_
          rintro e w6 ⟨g, rfl, hg, hm6⟩
          obtain rfl : g = true := hg.2 HOK.out
          have HM6 := Hidden.mk (HMx.out.trans hm6 (by simp))
          have HA6 := Hidden.mk (HAx.out.news hm6)
          have HK2 := Hidden.mk (len_runs HA6.out HR.out.b16 (by omega))
          clear hg hm6 HK1 HAx HMx
          go_wp2_with fail
          refine HK2.out.mono ?_
          rintro e w7 ⟨rfl, hm7⟩
          rw [HR.out.len]
          have HM7 := Hidden.mk (HM6.out.trans hm7 (by simp))
          have HA7 := Hidden.mk (HA6.out.news hm7)
          have HK3 := Hidden.mk (of06 (HI4.out.news HM7.out) (by omega) HB.out)
          clear hm7 HK2 HA6 HM6
          go_wp2_with fail
          refine HK3.out.mono ?_
          rintro e w8 ⟨v8, rfl, hs8, hm8, _⟩
          have HM8 := Hidden.mk (HM7.out.trans hm8 (by simp))
          have HA8 := Hidden.mk (HA7.out.news hm8)
          have HK4 := Hidden.mk (list06 hs8)
          obtain ⟨sb, rfl, _⟩ := hs8.at_
          clear hs8 hm8 HK3 HA7 HM7
          go_wp2_with fail
          refine HK4.out.mono ?_
          rintro e w9 ⟨v9, rfl, hW9⟩
          have HM9 := Hidden.mk (HM8.out.trans hW9.mod (by simp))
          have HA9 := Hidden.mk (HA8.out.news hW9.mod)
          have HF9 : Hidden ((lst (fun i => decide ((i : Int) ∈ L))).length = cntN (addF (fun _ => false) L) Most) := ⟨by rw [lst_length]; rfl⟩
          obtain ⟨a9, c9, rfl, _⟩ := hW9.isl.2.slice_
          rw [HF9.out]
          have HK5 := Hidden.mk (dropm_runs HA9.out HR.out (HI3.out.news HM9.out) HBK.out (by omega))
          clear hW9 HK4 HA8 HM8 HF9
          generalize cntN (addF (fun _ => false) L) Most = cc at *
          have hcc : ((cc : Int) == (cc : Int)) = true := by simp
          go_wp2_with fail
          refine HK5.out.mono ?_
          rintro e w10 ⟨v10, l10, rfl, hW10, hR10⟩
          have hz : l10 = [] := by
            rw [addF_ext (fun x => (HX.out x).symm), drop_all] at hR10
            exact hR10.one RF.empty
          subst hz
          have HM10 := Hidden.mk (HM9.out.trans hW10.mod (by simp))
          obtain ⟨a10, c10, rfl, _⟩ := hW10.slice_
          clear hW10 hR10 HK5
          go_wp2_with fail
          go_ret
          exact ⟨rfl, (hM3.out.trans HM10.out (by simp)).below (Nat.le_refl _) (by simp)⟩
end Go.Proofs.Ythcjnijggebcaaa
