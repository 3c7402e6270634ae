/- ref11.Kinds, ref11.XFast: how many prefixes a list of keys has. -/
import Derived.Test.YtfioekkegihkoaaGXfO
namespace Go.Proofs.Ytfioekkegihkoaa
open Go.RowKit
set_option linter.unusedVariables false
set_option linter.unusedSimpArgs false
/-- The prefix of the last key. -/
def lastK (b : Nat) (q : Option Int) (l : List Int) : Option Int := (l.getLast?.map (fun k => pfx k b)).or q
theorem kindsL_snoc (b : Nat) (x : Int) : ∀ (l : List Int) (q : Option Int), kindsL b q (l ++ [x]) = kindsL b q l ++ (if lastK b q l = some (pfx x b) then [] else [pfx x b])
  | [], q => by by_cases h : q = some (pfx x b) <;> simp [kindsL, lastK, h]
  | k :: l, q => by
    rw [List.cons_append]
    by_cases h : q = some (pfx k b)
    · have e : lastK b q (k :: l) = lastK b q l := by
        unfold lastK
        cases l with
        | nil => simp [h]
        | cons y l => simp [List.getLast?_cons_cons]
      have h1 := kindsL_snoc b x l q
      rw [kindsL, if_pos h, kindsL, if_pos h, h1, e]
    · have e : lastK b q (k :: l) = lastK b (some (pfx k b)) l := by
        unfold lastK
        cases l with
        | nil => simp
        | cons y l => simp [List.getLast?_cons_cons, List.getLast?_cons]
      have h1 := kindsL_snoc b x l (some (pfx k b))
      rw [kindsL, if_neg h, kindsL, if_neg h, h1, e, List.cons_append]
theorem kinds_first {b : Nat} {l : List Int} {x : Int} (h : l[0]? = some x) : (kindsL b none (l.take 1)).length = 1 := by
  have : l.take 1 = [x] := by rw [List.take_add_one (i := 0), h]; rfl
  rw [this]; simp [kindsL]
theorem kinds_next {b r : Nat} {l : List Int} {x y : Int} (hy : l[r]? = some y) (hx : l[r + 1]? = some x) : (kindsL b none (l.take (r + 1 + 1))).length = (kindsL b none (l.take (r + 1))).length + (if pfx y b = pfx x b then 0 else 1) := by
  have e1 : l.take (r + 1 + 1) = l.take (r + 1) ++ [x] := by rw [List.take_add_one, hx]; rfl
  have e2 : l.take (r + 1) = l.take r ++ [y] := by rw [List.take_add_one, hy]; rfl
  have e3 : lastK b none (l.take (r + 1)) = some (pfx y b) := by rw [e2]; unfold lastK; simp
  rw [e1, kindsL_snoc, e3]
  by_cases h : pfx y b = pfx x b
  · simp [h]
  · simp [h]
theorem kindsN_snoc (ks : List Int) (n : Nat) : kindsN ks (n + 1) = kindsN ks n + (kindsL n none ks).length := by
  unfold kindsN; rw [List.range_succ]; simp
set_option maxHeartbeats 4000000 in
set_option maxRecDepth 100000 in
theorem kinds11 {w : World} {v : Value} {l : List Int} (b : Nat) (hb : b ≤ 64) (h : ISl .u64 w v l) (hl : l.length ≤ 1000000) (hB : ∀ x ∈ l, 0 ≤ x ∧ x < 18446744073709551616) :
    Calls Try.prog 93 #[v, .int .i64 b] w fun e w' => e = .returned (.int .i64 ((kindsL b none l).length : Nat)) ∧ ∃ q, w' = w.drewN q := by
  obtain ⟨pa, cap, rfl, -⟩ := h.slice_
  have H := Hidden.mk (And.intro h hB)
  clear h hB
  go_enter Try.func93, Try.ntmps93
  go_wp2_with fail
  go_loopw [5, 10] (fun nv iv wr => ∃ (i q : Nat), i ≤ l.length ∧ nv = .int .i64 ((kindsL b none (l.take i)).length : Nat) ∧ iv = .int .i64 i ∧ wr = w.drewN q) (fun _ iv _ => l.length - (intOf iv).toNat)
  case atStart => exact ⟨0, 0, by omega, by simp [kindsL], rfl, rfl⟩
  case round =>
    obtain ⟨i, q, hi, rfl, rfl, rfl⟩ := hrel
    by_cases hin : i < l.length
    · obtain ⟨g, off, x, rfl, hg, hx, hc⟩ := H.out.1.get hin
      have hw1 : IntKind.i64.wrap ((i : Int) + 1) = i + 1 := IntWalk.i64_in _ (by omega)
      have hkl : (kindsL b none (l.take i)).length ≤ 1000000 := Nat.le_trans kindsL_len (by rw [List.length_take]; omega)
      obtain ⟨n, hn⟩ : ∃ n, (kindsL b none (l.take i)).length = n := ⟨_, rfl⟩
      rw [hn] at hkl ⊢
      have hw2 : IntKind.i64.wrap ((n : Int) + 1) = n + 1 := IntWalk.i64_in _ (by omega)
      have hxb := H.out.2 x (List.mem_of_getElem? hx)
      cases i with
      | zero =>
        have HF := Hidden.mk (kinds_first (b := b) hx)
        have hn0 : n = 0 := by rw [← hn]; simp [kindsL]
        subst hn0
        clear hn hx hxb
        rw [Nat.add_zero] at hc
        go_wp2_with fail
        (try go_quiet (fail))
        go_wp2_with fail
        go_roundw
        case rel => exact ⟨1, _, by omega, by rw [HF.out]; rfl, rfl, rfl⟩
        case measure => simp [intOf]; omega
      | succ r =>
        obtain ⟨g', off', y, hp, -, hy, hc'⟩ := H.out.1.get (i := r) (by omega)
        injection hp with hp
        injection hp with hp1 hp2
        subst hp1; subst hp2
        have HN := Hidden.mk (kinds_next (b := b) hy hx)
        rw [hn] at HN
        have hyb := H.out.2 y (List.mem_of_getElem? hy)
        have ez : ((r : Int) + 1 == 0) = false := beq_eq_false_iff_ne.2 (by omega)
        have ed : decide ((r : Int) + 1 < (l.length : Int)) = true := decide_eq_true (by omega)
        have hw3 : IntKind.i64.wrap ((r : Int) + 1 + 1) = r + 1 + 1 := IntWalk.i64_in _ (by omega)
        clear hw1
        rw [show ((r + 1 : Nat) : Int) = (r : Int) + 1 from rfl]
        have hr0 : (0 : Int) ≤ r := Int.natCast_nonneg r
        have hrl : (r : Int) < l.length := by exact_mod_cast (show r < l.length by omega)
        have e64 : IntKind.i64.wrap (64 - (b : Int)) = 64 - b := IntWalk.i64_in _ (by omega)
        have ew : wrap64 (r : Int) = r := by unfold wrap64; omega
        have e : ∀ z : Int, z / 2 ^ (64 - b) = pfx z b := fun z => rfl
        rcases Nat.eq_zero_or_pos b with hb0 | hb0
        · have db : decide ((0 : Int) < (b : Int)) = false := decide_eq_false (by omega)
          have db' : decide (0 < b) = false := decide_eq_false (by omega)
          rw [if_pos (by rw [hb0, pfx_none hyb, pfx_none hxb])] at HN
          clear hn hx hy hxb hyb e e64 hb0
          go_wp2_with fail
          go_quiet (fail)
          go_wp2_with fail
          go_roundw
          case rel => exact ⟨r + 1 + 1, _, by omega, by rw [HN.out]; rfl, by go_num, rfl⟩
          case measure => simp [intOf]; omega
        · have db : decide ((0 : Int) < (b : Int)) = true := decide_eq_true (by omega)
          by_cases hq : pfx y b = pfx x b
          · have hne : (x / 2 ^ (64 - b) != y / 2 ^ (64 - b)) = false := by rw [e, e, hq]; simp
            rw [if_pos hq] at HN
            clear hn hx hy hxb hyb e hq
            go_wp2_with fail
            (try go_quiet (fail))
            go_wp2_with fail
            go_roundw
            case rel => exact ⟨r + 1 + 1, _, by omega, by rw [HN.out]; rfl, by go_num, rfl⟩
            case measure => simp [intOf]; omega
          · have hne : (x / 2 ^ (64 - b) != y / 2 ^ (64 - b)) = true := by rw [e, e]; exact bne_iff_ne.2 (fun h => hq h.symm)
            rw [if_neg hq] at HN
            clear hn hx hy hxb hyb e hq
            go_wp2_with fail
            (try go_quiet (fail))
            go_wp2_with fail
            go_roundw
            case rel => exact ⟨r + 1 + 1, _, by omega, by rw [HN.out]; go_num, by go_num, rfl⟩
            case measure => simp [intOf]; omega
    · obtain rfl : i = l.length := by omega
      have HT : Hidden ((kindsL b none l).length = (kindsL b none (l.take l.length)).length) := ⟨by rw [List.take_length]⟩
      go_wp2_with fail
      go_ret
      exact ⟨by rw [HT.out]; rfl, q, rfl⟩
set_option maxHeartbeats 2000000 in
set_option maxRecDepth 100000 in
theorem xfast11 {w : World} {v : Value} {l : List Int} (h : ISl .u64 w v l) (hl : l.length ≤ 1000000) (hB : ∀ x ∈ l, 0 ≤ x ∧ x < 18446744073709551616) :
    Calls Try.prog 49 #[v] w fun e w' => e = .returned (.int .i64 (useK l : Nat)) ∧ ∃ q, w' = w.drewN q := by
  obtain ⟨pa, cap, rfl, -⟩ := h.slice_
  have H := Hidden.mk (fun b hb W (hW : Mod [] w W) => kinds11 b hb (h.news hW) hl hB)
  clear h hB
  go_enter Try.func49, Try.ntmps49
  go_wp2_with fail
  go_loopw [3, 4] (fun nv iv wr => ∃ (i q : Nat), i ≤ 65 ∧ nv = .int .i64 ((l.length + kindsN l i : Nat) : Int) ∧ iv = .int .i64 i ∧ wr = w.drewN q) (fun _ iv _ => 65 - (intOf iv).toNat)
  case atStart => exact ⟨0, 0, by omega, by simp [kindsN], rfl, rfl⟩
  case round =>
    obtain ⟨i, q, hi, rfl, rfl, rfl⟩ := hrel
    have hkn := kindsN_le l i
    have hk1 : kindsN l i ≤ 65000000 := Nat.le_trans hkn (Nat.le_trans (Nat.mul_le_mul hi hl) (by decide))
    clear hkn
    by_cases hin : i < 65
    · have hd : decide ((i : Int) ≤ 64) = true := decide_eq_true (by omega)
      have hw1 : IntKind.i64.wrap ((i : Int) + 1) = i + 1 := IntWalk.i64_in _ (by omega)
      have HK := Hidden.mk (H.out i (by omega) _ ((Mod.refl [] w).drewN q))
      have hkl : (kindsL i none l).length ≤ l.length := kindsL_len
      have HS := Hidden.mk (kindsN_snoc l i)
      obtain ⟨n, hn⟩ : ∃ n, (kindsL i none l).length = n := ⟨_, rfl⟩
      rw [hn] at HK HS hkl
      obtain ⟨m, hm⟩ : ∃ m, l.length + kindsN l i = m := ⟨_, rfl⟩
      have hm1 : m + n ≤ 70000000 := by omega
      have HM := Hidden.mk hm
      rw [hm]
      have hw2 : IntKind.i64.wrap ((m : Int) + n) = m + n := IntWalk.i64_in _ (by omega)
      clear hn hm hk1
      go_wp2_with fail
      refine HK.out.mono ?_
      rintro e w1 ⟨rfl, q2, rfl⟩
      go_wp2_with fail
      go_roundw
      case rel => exact ⟨i + 1, _, by omega, by rw [HS.out, ← Nat.add_assoc, HM.out]; go_num, by go_num, rfl⟩
      case measure => simp [intOf]; omega
    · obtain rfl : i = 65 := by omega
      have hd : decide ((65 : Int) ≤ 64) = false := rfl
      have HU : Hidden (useK l = l.length + kindsN l 65) := ⟨by unfold useK; omega⟩
      go_wp2_with fail
      go_ret
      exact ⟨by rw [HU.out]; rfl, q, rfl⟩
end Go.Proofs.Ytfioekkegihkoaa
