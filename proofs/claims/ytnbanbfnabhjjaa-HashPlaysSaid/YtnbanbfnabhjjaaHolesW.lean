/- The walk of HashHoles. -/
import Derived.Test.YtnbanbfnabhjjaaHashB
import Derived.RegionCalls
namespace Go.Proofs.Ytnbanbfnabhjjaa
open Go.RowKit
set_option linter.unusedVariables false
set_option linter.unusedSimpArgs false

theorem lk_put (l : List (HK × Int)) (k k' : HK) (v : Int) : lk (putL l k v) k' = if k' = k then some v else lk l k' := by
  unfold lk putL
  rw [List.find?_cons]
  by_cases h : k = k'
  · subst h; simp
  · simp only [h, decide_false, if_neg (Ne.symm h)]
    rw [List.find?_filter]; congr 2; funext e
    by_cases he : e.1 = k'
    · subst he; simp [Ne.symm h]
    · simp [he]
theorem lk_drop (l : List (HK × Int)) (k k' : HK) : lk (dropL l k) k' = if k' = k then none else lk l k' := by
  unfold lk dropL
  rw [List.find?_filter]
  by_cases h : k' = k
  · subst h; simp
  · rw [if_neg h]; congr 2; funext e
    by_cases he : e.1 = k'
    · subst he; simp [h]
    · simp [he]
theorem putL_len (l : List (HK × Int)) (k : HK) (v : Int) : (putL l k v).length ≤ l.length + 1 := by
  unfold putL; simp only [List.length_cons]; have := List.length_filter_le (fun e : HK × Int => decide (e.1 ≠ k)) l; omega
theorem keyOK_of {l p : Int} (h0 : 0 ≤ l) (h1 : l ≤ 255) (hp : U64 p) : KeyOK (l, p) := ⟨h0, h1, hp⟩
theorem keyOK_wrap (l p : Int) (h0 : 0 ≤ l) (h1 : l ≤ 255) : KeyOK (l, IntKind.u64.wrap p) := ⟨h0, h1, U64.wrap p⟩

theorem or_odd (x : Int) (h0 : 0 ≤ x) (h1 : x < 18446744073709551616) : bits .or .u64 x 1 % 2 = 1 ∧ 0 ≤ bits .or .u64 x 1 ∧ bits .or .u64 x 1 < 18446744073709551616 := by
  have hr := (U64.or x 1).out
  refine ⟨?_, hr⟩
  rw [u64_or x 1 h0 h1 (by decide) (by decide)]
  have : (x.toNat ||| (1 : Int).toNat) % 2 = 1 := by
    simp
  omega
theorem coprime_odd (s : Nat) (h : s % 2 = 1) : Nat.Coprime 18446744073709551616 s := by
  have h2 : Nat.Coprime 2 s := by unfold Nat.Coprime; rw [Nat.gcd_rec, h]; decide
  have := Nat.Coprime.pow_left 64 h2
  exact this
def keyH (lv from_ step : Int) (i : Nat) : HK := (lv, IntKind.u64.wrap (from_ + IntKind.u64.wrap ((i : Int) * step)))
theorem keyH_inj (lv lv' from_ step : Int) (hodd : step % 2 = 1) (h0 : 0 ≤ step) (i j : Nat) (hi : i < 4294967296) (hj : j < 4294967296) (h : (keyH lv from_ step i).2 = (keyH lv' from_ step j).2) : i = j := by
  unfold keyH at h
  simp only [IntKind.wrap_u64] at h
  have h1 : (18446744073709551616 : Int) ∣ ((i : Int) * step - (j : Int) * step) := by
    omega
  obtain ⟨s, rfl⟩ : ∃ s : Nat, step = s := ⟨step.toNat, by omega⟩
  have hc := coprime_odd s (by omega)
  have key : ∀ a b : Nat, a ≤ b → b < 4294967296 → (18446744073709551616 : Int) ∣ ((b : Int) * s - (a : Int) * s) → a = b := by
    intro a b hab hb hd
    have e : (b : Int) * s - (a : Int) * s = (((b - a) * s : Nat) : Int) := by
      rw [Nat.sub_mul, Int.natCast_sub (Nat.mul_le_mul_right _ hab)]; simp
    rw [e] at hd
    have hd2 : 18446744073709551616 ∣ (b - a) * s := Int.natCast_dvd_natCast.1 (show ((18446744073709551616 : Nat) : Int) ∣ _ from hd)
    have := hc.dvd_of_dvd_mul_right hd2
    have := Nat.eq_zero_of_dvd_of_lt this (by omega)
    omega
  rcases Nat.le_total i j with hij | hij
  · exact key i j hij hj (by rw [← Int.dvd_neg]; have : -((j : Int) * s - (i : Int) * s) = (i : Int) * s - (j : Int) * s := by omega
                             rw [this]; exact h1)
  · exact (key j i hij hi h1).symm
set_option maxRecDepth 100000 in
set_option maxHeartbeats 1000000 in
theorem awake5 (w0 w : World) (hb : Below w0.heap.size w0 w) :
    Calls Try.prog 36 #[] w fun e w' => e = .returned (.bool true) ∧ Below w0.heap.size w0 w' := by
  have hk : KeyOK (3, 5) := ⟨by decide, by decide, ⟨by decide⟩⟩
  have hk4 : KeyOK (4, 5) := ⟨by decide, by decide, ⟨by decide⟩⟩
  go_enter Try.func36, Try.ntmps36
  go_wp2_with fail
  refine (hm_new_nil 1 w0 _ hb).mono ?_; rintro e w1 ⟨tb, rfl, hH⟩
  have h1 := hm_put (3, 5) 7 hk hH (by simp)
  unfold keyV at h1
  go_wp2_with fail
  refine h1.mono ?_; clear h1 hH; rintro e w2 ⟨rfl, b', pr', hH, _, _⟩
  rw [show (lk [] (3, 5)).isNone = true from rfl]
  rw [show putL [] (3, 5) 7 = [((3, 5), 7)] from rfl] at hH
  have h1 := hm_get (3, 5) hk hH
  unfold keyV at h1
  go_wp2_with fail
  refine h1.mono ?_; clear h1 hH; rintro e w3 ⟨rfl, pr2, hH, _, _⟩
  rw [show (lk [((3, 5), 7)] (3, 5)) = some 7 from rfl]
  simp only [Option.getD_some, Option.isSome_some]
  have h1 := hm_get (4, 5) hk4 hH
  unfold keyV at h1
  go_wp2_with fail
  refine h1.mono ?_; clear h1 hH; rintro e w4 ⟨rfl, pr2, hH, _, _⟩
  rw [show (lk [((3, 5), 7)] (4, 5)) = none from rfl]
  simp only [Option.getD_none, Option.isSome_none]
  go_wp2_with fail
  refine (hm_len hH).mono ?_; rintro e w5 ⟨rfl, rfl⟩
  rw [show (([((3, 5), 7)] : List (HK × Int)).length) = 1 from rfl]
  go_wp2_with fail
  go_ret
  exact ⟨rfl, hH.below⟩
end Go.Proofs.Ytnbanbfnabhjjaa
