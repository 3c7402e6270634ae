/- Texts joined: XfM, XfT, XfN. -/
import Derived.Test.YtfioekkegihkoaaChainM
import Derived.Test.YtfioekkegihkoaaGHashB
import Derived.Test.YtfioekkegihkoaaGOrd
import Derived.Test.YtfioekkegihkoaaGBuc
set_option linter.unusedVariables false
set_option linter.unusedSimpArgs false
/- x-fast tries (plain): the beginnings of keys, what spans them, how long a beginning a key shares. -/
namespace Go.Proofs.Ytfioekkegihkoaa
set_option linter.unusedVariables false
/-- The first b bits of a key. -/
def pfx (k : Int) (b : Nat) : Int := k / (2 : Int) ^ (64 - b)
theorem pow2_pos (n : Nat) : (0 : Int) < (2 : Int) ^ n := Int.pow_pos (by decide)
theorem pfx_up {k : Int} {b c : Nat} (h1 : b ≤ c) (h2 : c ≤ 64) : pfx k b = pfx k c / (2 : Int) ^ (c - b) := by
  unfold pfx
  rw [Int.ediv_ediv, if_neg (fun h => by have := pow2_pos (64 - c); omega), ← Int.pow_add, show 64 - c + (c - b) = 64 - b from by omega]
  simp
theorem pfx_down {x k : Int} {b c : Nat} (h1 : b ≤ c) (h2 : c ≤ 64) (h : pfx x c = pfx k c) : pfx x b = pfx k b := by
  rw [pfx_up h1 h2, pfx_up h1 h2, h]
theorem pfx_le {x y : Int} (b : Nat) (h : x ≤ y) : pfx x b ≤ pfx y b := Int.ediv_le_ediv (pow2_pos _) h
theorem pfx_all (k : Int) : pfx k 64 = k := by unfold pfx; simp
theorem pfx_none {k : Int} (h : 0 ≤ k ∧ k < 18446744073709551616) : pfx k 0 = 0 := by
  unfold pfx
  rw [show (2 : Int) ^ (64 - 0) = 18446744073709551616 from by decide]; omega
theorem pfx_bnd {k : Int} (h : 0 ≤ k ∧ k < 18446744073709551616) (b : Nat) : 0 ≤ pfx k b ∧ pfx k b < 18446744073709551616 := by
  unfold pfx
  have h1 := pow2_pos (64 - b)
  refine ⟨Int.ediv_nonneg h.1 (Int.le_of_lt h1), Int.lt_of_le_of_lt ?_ h.2⟩
  exact Int.ediv_le_self _ h.1
/-- One bit more: twice the beginning, and the bit. -/
theorem pfx_bit {k : Int} {b : Nat} (h : b < 64) : pfx k b = pfx k (b + 1) / 2 := by
  have := pfx_up (k := k) (b := b) (c := b + 1) (by omega) (by omega)
  rwa [show b + 1 - b = 1 from by omega] at this
/-- The links whose keys begin so. -/
def msk (L : CL) (b : Nat) (p : Int) : CL := L.filter (fun e => decide (pfx e.2 b = p))
theorem msk_app (A B : CL) (b : Nat) (p : Int) : msk (A ++ B) b p = msk A b p ++ msk B b p := List.filter_append A B
theorem msk_mem {L : CL} {b : Nat} {p : Int} {e : Nat × Int} : e ∈ msk L b p ↔ e ∈ L ∧ pfx e.2 b = p := by unfold msk; simp
theorem msk_yes {e : Nat × Int} {L : CL} {b : Nat} {p : Int} (h : pfx e.2 b = p) : msk (e :: L) b p = e :: msk L b p := by unfold msk; rw [List.filter_cons, if_pos (by simpa using h)]
theorem msk_no {e : Nat × Int} {L : CL} {b : Nat} {p : Int} (h : pfx e.2 b ≠ p) : msk (e :: L) b p = msk L b p := by unfold msk; rw [List.filter_cons, if_neg (by simpa using h)]
/-- The places of the least and the greatest of them. -/
def spn (L : CL) (b : Nat) (p : Int) : Option (Int × Int) := if msk L b p = [] then none else some (hdC (msk L b p) (-1), lsC (msk L b p) (-1))
def packS (s : Int × Int) : Int := s.1 * 4294967296 + s.2
theorem spn_none {L : CL} {b : Nat} {p : Int} : spn L b p = none ↔ msk L b p = [] := by unfold spn; split <;> simp_all
theorem spn_some {L : CL} {b : Nat} {p : Int} (h : msk L b p ≠ []) : spn L b p = some (hdC (msk L b p) (-1), lsC (msk L b p) (-1)) := by unfold spn; rw [if_neg h]
/-- Keys in order, links apart. -/
structure XL (L : CL) : Prop where
  up : L.Pairwise (fun e f => e.2 < f.2)
  nd : (L.map (·.1)).Nodup
  k64 : ∀ e ∈ L, 0 ≤ e.2 ∧ e.2 < 18446744073709551616
  pl : ∀ e ∈ L, e.1 < 1048576
section
variable {L A B : CL} {k : Int} {a : Nat}
theorem XL.left (h : XL (A ++ B)) : XL A := ⟨(List.pairwise_append.1 h.up).1, by have := h.nd; rw [List.map_append, List.nodup_append] at this; exact this.1, fun e he => h.k64 e (by simp [he]), fun e he => h.pl e (by simp [he])⟩
theorem XL.right (h : XL (A ++ B)) : XL B := ⟨(List.pairwise_append.1 h.up).2.1, by have := h.nd; rw [List.map_append, List.nodup_append] at this; exact this.2.1, fun e he => h.k64 e (by simp [he]), fun e he => h.pl e (by simp [he])⟩
theorem XL.apart (h : XL (A ++ B)) {e f : Nat × Int} (he : e ∈ A) (hf : f ∈ B) : e.1 ≠ f.1 ∧ e.2 < f.2 := by
  refine ⟨fun hh => ?_, (List.pairwise_append.1 h.up).2.2 e he f hf⟩
  have := h.nd
  rw [List.map_append, List.nodup_append] at this
  exact this.2.2 e.1 (List.mem_map.2 ⟨e, he, rfl⟩) f.1 (List.mem_map.2 ⟨f, hf, rfl⟩) hh
/-- Of the links behind, those with k's beginning are the first ones. -/
theorem head_in (h : XL B) (hk : ∀ e ∈ B, k < e.2) {b : Nat} (hne : msk B b (pfx k b) ≠ []) : hdC (msk B b (pfx k b)) (-1) = hdC B (-1) := by
  cases B with
  | nil => exact absurd rfl hne
  | cons e B =>
    have he : pfx e.2 b = pfx k b := by
      obtain ⟨f, hf⟩ := List.exists_mem_of_ne_nil _ hne
      obtain ⟨hf1, hf2⟩ := msk_mem.1 hf
      have h1 : e.2 ≤ f.2 := by
        rcases List.mem_cons.1 hf1 with rfl | hf1
        · exact Int.le_refl _
        · exact Int.le_of_lt ((List.pairwise_cons.1 h.up).1 f hf1)
      have h2 := pfx_le b h1
      have h3 := pfx_le b (Int.le_of_lt (hk e (by simp)))
      omega
    rw [msk_yes he]; rfl
theorem last_in (h : XL A) (hk : ∀ e ∈ A, e.2 < k) {b : Nat} (hne : msk A b (pfx k b) ≠ []) : lsC (msk A b (pfx k b)) (-1) = lsC A (-1) := by
  obtain ⟨C, e, rfl⟩ : ∃ C e, A = C ++ [e] := by
    rcases List.eq_nil_or_concat A with hA | ⟨C, e, hA⟩
    · subst hA; exact absurd rfl hne
    · exact ⟨C, e, by rw [hA]; simp⟩
  have he : pfx e.2 b = pfx k b := by
    obtain ⟨f, hf⟩ := List.exists_mem_of_ne_nil _ hne
    obtain ⟨hf1, hf2⟩ := msk_mem.1 hf
    have h1 : f.2 ≤ e.2 := by
      rcases List.mem_append.1 hf1 with hf1 | hf1
      · exact Int.le_of_lt (h.apart hf1 (by simp : e ∈ [e])).2
      · simp at hf1; subst hf1; exact Int.le_refl _
    have h2 := pfx_le b h1
    have h3 := pfx_le b (Int.le_of_lt (hk e (by simp)))
    omega
  rw [msk_app, msk_yes he, show msk [] b (pfx k b) = [] from rfl, lsC_snoc, lsC_snoc]
/-- How long a beginning k shares with one of them; -1: there is none. -/
def IsLong (L : CL) (k : Int) (z : Int) : Prop := -1 ≤ z ∧ z ≤ 64 ∧ ∀ c : Nat, c ≤ 64 → ((c : Int) ≤ z ↔ msk L c (pfx k c) ≠ [])
theorem msk_mono {b c : Nat} (h1 : b ≤ c) (h2 : c ≤ 64) (h : msk L c (pfx k c) ≠ []) : msk L b (pfx k b) ≠ [] := by
  obtain ⟨f, hf⟩ := List.exists_mem_of_ne_nil _ h
  obtain ⟨hf1, hf2⟩ := msk_mem.1 hf
  exact List.ne_nil_of_mem (msk_mem.2 ⟨hf1, pfx_down h1 h2 hf2⟩)
theorem IsLong.one {z z' : Int} (h : IsLong L k z) (h' : IsLong L k z') : z = z' := by
  obtain ⟨h1, h2, h3⟩ := h
  obtain ⟨k1, k2, k3⟩ := h'
  rcases Int.lt_trichotomy z z' with c | c | c
  · have e1 := (k3 z'.toNat (by omega)).1 (by omega)
    have e2 := (h3 z'.toNat (by omega)).2 e1
    omega
  · exact c
  · have e1 := (h3 z.toNat (by omega)).1 (by omega)
    have e2 := (k3 z.toNat (by omega)).2 e1
    omega
theorem IsLong.none (h : IsLong L k (-1)) (h64 : ∀ e ∈ L, 0 ≤ e.2 ∧ e.2 < 18446744073709551616) (hk : 0 ≤ k ∧ k < 18446744073709551616) : L = [] := by
  have h0 : msk L 0 (pfx k 0) = [] := Classical.byContradiction (fun hh => by have := (h.2.2 0 (by omega)).2 hh; omega)
  cases L with
  | nil => rfl
  | cons e L =>
    have : e ∈ msk (e :: L) 0 (pfx k 0) := msk_mem.2 ⟨by simp, by rw [pfx_none (h64 e (by simp)), pfx_none hk]⟩
    rw [h0] at this; cases this
theorem IsLong.whole (h : IsLong L k 64) : ∃ e ∈ L, e.2 = k := by
  have h1 := (h.2.2 64 (by omega)).1 (by omega)
  obtain ⟨f, hf⟩ := List.exists_mem_of_ne_nil _ h1
  obtain ⟨hf1, hf2⟩ := msk_mem.1 hf
  rw [pfx_all, pfx_all] at hf2
  exact ⟨f, hf1, hf2⟩
theorem IsLong.of_mem {z : Int} {e : Nat × Int} (he : e ∈ L) (h : IsLong L e.2 z) : z = 64 := by
  have := (h.2.2 64 (by omega)).2 (List.ne_nil_of_mem (msk_mem.2 ⟨he, rfl⟩))
  have := h.2.1
  omega
/-- Of a key that isn't there: which side those stand that share the longest beginning. -/
theorem IsLong.side {b : Nat} (h : IsLong (A ++ B) k b) (hb : b < 64) (hx : XL (A ++ B)) (hA : ∀ e ∈ A, e.2 < k) (hB : ∀ e ∈ B, k < e.2) (hk : 0 ≤ k ∧ k < 18446744073709551616) :
    (pfx k (b + 1) % 2 = 0 → msk A b (pfx k b) = [] ∧ msk B b (pfx k b) ≠ []) ∧ (pfx k (b + 1) % 2 = 1 → msk B b (pfx k b) = [] ∧ msk A b (pfx k b) ≠ []) := by
  have hne := (h.2.2 b (by omega)).1 (Int.le_refl _)
  have hno : msk (A ++ B) (b + 1) (pfx k (b + 1)) = [] := Classical.byContradiction (fun hh => by have := (h.2.2 (b + 1) (by omega)).2 hh; omega)
  -- who shares the beginning has the other bit
  have hbit : ∀ e ∈ A ++ B, pfx e.2 b = pfx k b → pfx e.2 (b + 1) ≠ pfx k (b + 1) := fun e he h1 h2 => by
    have : e ∈ msk (A ++ B) (b + 1) (pfx k (b + 1)) := msk_mem.2 ⟨he, h2⟩
    rw [hno] at this; cases this
  have hkb := pfx_bit (k := k) hb
  rw [msk_app] at hne
  constructor
  · intro h0
    have hAn : msk A b (pfx k b) = [] := by
      refine Classical.byContradiction (fun hh => ?_)
      obtain ⟨f, hf⟩ := List.exists_mem_of_ne_nil _ hh
      obtain ⟨hf1, hf2⟩ := msk_mem.1 hf
      have h1 := hbit f (by simp [hf1]) hf2
      have h2 := pfx_le (b + 1) (Int.le_of_lt (hA f hf1))
      have h3 := pfx_bit (k := f.2) hb
      omega
    refine ⟨hAn, fun hh => hne (by rw [hAn, hh]; rfl)⟩
  · intro h0
    have hBn : msk B b (pfx k b) = [] := by
      refine Classical.byContradiction (fun hh => ?_)
      obtain ⟨f, hf⟩ := List.exists_mem_of_ne_nil _ hh
      obtain ⟨hf1, hf2⟩ := msk_mem.1 hf
      have h1 := hbit f (by simp [hf1]) hf2
      have h2 := pfx_le (b + 1) (Int.le_of_lt (hB f hf1))
      have h3 := pfx_bit (k := f.2) hb
      omega
    refine ⟨hBn, fun hh => hne (by rw [hBn, hh]; rfl)⟩
/-- The spans of k's beginnings, with k's own link between. -/
theorem spn_ins (hx : XL (A ++ B)) (hA : ∀ e ∈ A, e.2 < k) (hB : ∀ e ∈ B, k < e.2) (b : Nat) :
    spn (A ++ (a, k) :: B) b (pfx k b) = some (match spn (A ++ B) b (pfx k b) with
      | none => ((a : Int), (a : Int))
      | some s => if s.1 = hdC B (-1) then ((a : Int), s.2) else if s.2 = lsC A (-1) then (s.1, (a : Int)) else s) := by
  have e1 : msk (A ++ (a, k) :: B) b (pfx k b) = msk A b (pfx k b) ++ (a, k) :: msk B b (pfx k b) := by rw [msk_app, msk_yes rfl]
  rw [spn_some (by rw [e1]; simp), e1]
  by_cases hMA : msk A b (pfx k b) = []
  · by_cases hMB : msk B b (pfx k b) = []
    · rw [spn_none.2 (by rw [msk_app, hMA, hMB]; rfl), hMA, hMB]; rfl
    · rw [spn_some (by rw [msk_app, hMA]; simpa using hMB), msk_app, hMA, List.nil_append, List.nil_append]
      simp only
      rw [if_pos (head_in hx.right hB hMB)]
      show some ((a : Int), lsC (msk B b (pfx k b)) (a : Int)) = _
      rw [lsC_ne hMB (a : Int) (-1)]
  · have hlow : hdC (msk A b (pfx k b)) (-1) ≠ hdC B (-1) := by
      obtain ⟨e, he, hee⟩ := hdC_mem hMA (-1)
      rw [hee]
      intro hh
      cases B with
      | nil => simp [hdC] at hh
      | cons f B =>
        simp only [hdC] at hh
        have := (hx.apart (msk_mem.1 he).1 (show f ∈ f :: B by simp)).1
        omega
    by_cases hMB : msk B b (pfx k b) = []
    · rw [spn_some (by rw [msk_app, hMB]; simpa using hMA), msk_app, hMB, List.append_nil]
      simp only
      rw [if_neg hlow, if_pos (last_in hx.left hA hMA), hdC_app, hdC_ne hMA _ (-1), lsC_snoc]
    · rw [spn_some (by rw [msk_app]; simp [hMA]), msk_app]
      simp only
      have hhigh : lsC (msk A b (pfx k b) ++ msk B b (pfx k b)) (-1) ≠ lsC A (-1) := by
        rw [lsC_app, lsC_ne hMB _ (-1)]
        obtain ⟨e, he, hee⟩ := lsC_mem hMB (-1)
        rw [hee]
        intro hh
        by_cases hA0 : A = []
        · subst hA0; exact hMA rfl
        · obtain ⟨f, hf, hff⟩ := lsC_mem hA0 (-1)
          rw [hff] at hh
          have := (hx.apart hf (msk_mem.1 he).1).1
          omega
      rw [if_neg (by rw [hdC_app, hdC_ne hMA _ (-1)]; exact hlow), if_neg hhigh, hdC_app, hdC_app, hdC_ne hMA _ (hdC (msk B b (pfx k b)) (-1)), lsC_app, lsC_app]
      show some (_, lsC (msk B b (pfx k b)) _) = _
      rw [lsC_ne hMB _ (lsC (msk A b (pfx k b)) (-1))]
theorem spn_other {b : Nat} {p : Int} (hp : pfx k b ≠ p) : spn (A ++ (a, k) :: B) b p = spn (A ++ B) b p := by
  unfold spn; rw [msk_app, msk_no (by exact hp), ← msk_app]
/-- And taken out of it. -/
theorem spn_del (hx : XL (A ++ (a, k) :: B)) (b : Nat) :
    ∃ s, spn (A ++ (a, k) :: B) b (pfx k b) = some s ∧ spn (A ++ B) b (pfx k b) = (if s.1 = s.2 then none else some (if s.1 = a then (hdC B (-1), s.2) else if s.2 = a then (s.1, lsC A (-1)) else s)) ∧ (s.1 = s.2 → s.1 = a) := by
  have hA : ∀ e ∈ A, e.2 < k := fun e he => (hx.apart he (show (a, k) ∈ (a, k) :: B by simp)).2
  have hx2 : XL ((A ++ [(a, k)]) ++ B) := by rw [List.append_assoc]; exact hx
  have hB : ∀ e ∈ B, k < e.2 := fun e he => (hx2.apart (show (a, k) ∈ A ++ [(a, k)] by simp) he).2
  have hAa : ∀ e ∈ A, e.1 ≠ a := fun e he => (hx.apart he (show (a, k) ∈ (a, k) :: B by simp)).1
  have hBa : ∀ e ∈ B, a ≠ e.1 := fun e he => (hx2.apart (show (a, k) ∈ A ++ [(a, k)] by simp) he).1
  have hAB : ∀ e ∈ A, ∀ f ∈ B, e.1 ≠ f.1 := fun e he f hf => (hx.apart he (show f ∈ (a, k) :: B by simp [hf])).1
  have e1 : msk (A ++ (a, k) :: B) b (pfx k b) = msk A b (pfx k b) ++ (a, k) :: msk B b (pfx k b) := by rw [msk_app, msk_yes rfl]
  refine ⟨_, spn_some (by rw [e1]; simp), ?_⟩
  rw [e1]
  by_cases hMA : msk A b (pfx k b) = []
  · by_cases hMB : msk B b (pfx k b) = []
    · rw [spn_none.2 (by rw [msk_app, hMA, hMB]; rfl), hMA, hMB]
      exact ⟨by simp [hdC, lsC], fun _ => rfl⟩
    · rw [spn_some (by rw [msk_app, hMA]; simpa using hMB), msk_app, hMA, List.nil_append, List.nil_append]
      have hl : lsC ((a, k) :: msk B b (pfx k b)) (-1) = lsC (msk B b (pfx k b)) (-1) := by
        show lsC (msk B b (pfx k b)) (a : Int) = _
        exact lsC_ne hMB _ _
      rw [hl, show hdC ((a, k) :: msk B b (pfx k b)) (-1) = (a : Int) from rfl]
      obtain ⟨f, hf, hff⟩ := lsC_mem hMB (-1)
      have hne : (a : Int) ≠ lsC (msk B b (pfx k b)) (-1) := by rw [hff]; have := hBa f (msk_mem.1 hf).1; omega
      simp only
      rw [if_neg hne, if_pos trivial, head_in hx2.right hB hMB]
      exact ⟨rfl, fun h => absurd h hne⟩
  · obtain ⟨e, he, hee⟩ := hdC_mem hMA (-1)
    have hlow : hdC (msk A b (pfx k b)) (-1) ≠ (a : Int) := by rw [hee]; have := hAa e (msk_mem.1 he).1; omega
    have hh : ∀ n, hdC (msk A b (pfx k b)) n = hdC (msk A b (pfx k b)) (-1) := fun n => hdC_ne hMA n (-1)
    by_cases hMB : msk B b (pfx k b) = []
    · rw [spn_some (by rw [msk_app, hMB]; simpa using hMA), msk_app, hMB, List.append_nil, hdC_app, hh (hdC [(a, k)] (-1)), lsC_snoc]
      simp only
      rw [if_neg hlow, if_neg hlow, if_pos trivial, last_in hx.left hA hMA]
      exact ⟨rfl, fun h => absurd h hlow⟩
    · have hls : lsC (msk A b (pfx k b) ++ (a, k) :: msk B b (pfx k b)) (-1) = lsC (msk B b (pfx k b)) (-1) := by
        rw [lsC_app]; show lsC (msk B b (pfx k b)) (a : Int) = _; exact lsC_ne hMB _ _
      obtain ⟨f, hf, hff⟩ := lsC_mem hMB (-1)
      have hne : hdC (msk A b (pfx k b)) (-1) ≠ lsC (msk B b (pfx k b)) (-1) := by rw [hee, hff]; have := hAB e (msk_mem.1 he).1 f (msk_mem.1 hf).1; omega
      have hna : lsC (msk B b (pfx k b)) (-1) ≠ (a : Int) := by rw [hff]; have := hBa f (msk_mem.1 hf).1; omega
      rw [spn_some (by rw [msk_app]; simp [hMA]), msk_app, hdC_app, hh (hdC (msk B b (pfx k b)) (-1)), hdC_app, hh (hdC ((a, k) :: msk B b (pfx k b)) (-1)), hls, lsC_app, lsC_ne hMB _ (-1)]
      simp only
      rw [if_neg hne, if_neg hlow, if_neg hna]
      exact ⟨rfl, fun h => absurd h hne⟩
end
theorem pack_bnd {s : Int × Int} (h1 : 0 ≤ s.1 ∧ s.1 < 1048576) (h2 : 0 ≤ s.2 ∧ s.2 < 1048576) : packS s / 4294967296 = s.1 ∧ packS s % 4294967296 = s.2 ∧ 0 ≤ packS s ∧ packS s < 4503599627370496 := by
  unfold packS; omega
theorem spn_bnd {L : CL} (hx : XL L) {b : Nat} {p : Int} {s : Int × Int} (h : spn L b p = some s) : (0 ≤ s.1 ∧ s.1 < 1048576) ∧ (0 ≤ s.2 ∧ s.2 < 1048576) := by
  have hne : msk L b p ≠ [] := fun hh => by rw [spn_none.2 hh] at h; cases h
  rw [spn_some hne] at h
  injection h with h
  subst h
  obtain ⟨e, he, hee⟩ := hdC_mem hne (-1)
  obtain ⟨f, hf, hff⟩ := lsC_mem hne (-1)
  have h1 := hx.pl e (msk_mem.1 he).1
  have h2 := hx.pl f (msk_mem.1 hf).1
  simp only [hee, hff]; omega
end Go.Proofs.Ytfioekkegihkoaa

/- x-fast tries (plain): the table of spans; a key more, a key less, bit by bit. -/
namespace Go.Proofs.Ytfioekkegihkoaa
set_option linter.unusedVariables false
theorem lkX_put (l : List (HK × Int)) (k k' : HK) (v : Int) : lk (putL l k v) k' = if k' = k then some v else lk l k' := by
  unfold lk putL
  rw [List.find?_cons]
  by_cases h : k = k'
  · subst h; simp
  · simp only [h, decide_false, if_neg (Ne.symm h)]
    rw [List.find?_filter]; congr 2; funext e
    by_cases he : e.1 = k'
    · subst he; simp [Ne.symm h]
    · simp [he]
theorem lkX_drop (l : List (HK × Int)) (k k' : HK) : lk (dropL l k) k' = if k' = k then none else lk l k' := by
  unfold lk dropL
  rw [List.find?_filter]
  by_cases h : k' = k
  · subst h; simp
  · rw [if_neg h]; congr 2; funext e
    by_cases he : e.1 = k'
    · subst he; simp [h]
    · simp [he]
/-- The table while bits below n are already those of L', the others those of L. -/
structure XTP (L L' : CL) (n : Nat) (l : List (HK × Int)) : Prop where
  look : ∀ b : Nat, b ≤ 64 → ∀ p, lk l ((b : Int), p) = (spn (if b < n then L' else L) b p).map packS
  only : ∀ e ∈ l, ∃ b : Nat, b ≤ 64 ∧ e.1.1 = b
abbrev XT (L : CL) (l : List (HK × Int)) : Prop := XTP L L 0 l
section
variable {L L' A B : CL} {k : Int} {a n : Nat} {l : List (HK × Int)}
theorem XTP.start (h : XT L l) : XTP L L' 0 l := ⟨fun b hb p => by rw [h.look b hb p]; simp, h.only⟩
theorem XTP.done (h : XTP L L' 65 l) : XT L' l := ⟨fun b hb p => by rw [h.look b hb p, if_pos (by omega)]; simp, h.only⟩
theorem XT.get (h : XT L l) {b : Nat} (hb : b ≤ 64) (p : Int) : lk l ((b : Int), p) = (spn L b p).map packS := by have := h.look b hb p; simpa using this
theorem XTP.get (h : XTP L L' n l) (hn : n ≤ 64) (p : Int) : lk l ((n : Int), p) = (spn L n p).map packS := by have := h.look n hn p; rwa [if_neg (by omega)] at this
theorem XT.empty : XT [] [] := ⟨fun b hb p => by simp [lk, spn, msk], fun e he => by simp at he⟩
theorem XTP.put (h : XTP L L' n l) (hn : n ≤ 64) (p0 : Int) (s : Int × Int) (hs : spn L' n p0 = some s) (ho : ∀ p, p ≠ p0 → spn L' n p = spn L n p) : XTP L L' (n + 1) (putL l ((n : Int), p0) (packS s)) := by
  refine ⟨fun b hb p => ?_, fun e he => ?_⟩
  · rw [lkX_put]
    by_cases hbn : b = n
    · subst hbn
      by_cases hp : p = p0
      · subst hp; rw [if_pos rfl, if_pos (by omega), hs]; rfl
      · rw [if_neg (by intro hh; injection hh with _ hh; exact hp hh), h.look b hb p, if_neg (by omega), if_pos (by omega), ho p hp]
    · rw [if_neg (by intro hh; injection hh with hh _; omega), h.look b hb p]
      by_cases hlt : b < n
      · rw [if_pos hlt, if_pos (by omega)]
      · rw [if_neg hlt, if_neg (by omega)]
  · unfold putL at he
    rcases List.mem_cons.1 he with rfl | he
    · exact ⟨n, hn, rfl⟩
    · exact h.only e (List.mem_filter.1 he).1
theorem XTP.drop (h : XTP L L' n l) (hn : n ≤ 64) (p0 : Int) (hs : spn L' n p0 = none) (ho : ∀ p, p ≠ p0 → spn L' n p = spn L n p) : XTP L L' (n + 1) (dropL l ((n : Int), p0)) := by
  refine ⟨fun b hb p => ?_, fun e he => ?_⟩
  · rw [lkX_drop]
    by_cases hbn : b = n
    · subst hbn
      by_cases hp : p = p0
      · subst hp; rw [if_pos rfl, if_pos (by omega), hs]; rfl
      · rw [if_neg (by intro hh; injection hh with _ hh; exact hp hh), h.look b hb p, if_neg (by omega), if_pos (by omega), ho p hp]
    · rw [if_neg (by intro hh; injection hh with hh _; omega), h.look b hb p]
      by_cases hlt : b < n
      · rw [if_pos hlt, if_pos (by omega)]
      · rw [if_neg hlt, if_neg (by omega)]
  · unfold dropL at he
    exact h.only e (List.mem_filter.1 he).1
end
theorem putX_len {l : List (HK × Int)} {k : HK} {v : Int} (hn : (l.map (·.1)).Nodup) : (putL l k v).length = l.length + (if lk l k = none then 1 else 0) := by
  unfold putL
  rw [List.length_cons]
  cases h : lk l k with
  | none => rw [filter_absent h, if_pos rfl]
  | some u =>
    have h1 := (filter_present hn (lk_mem h)).length_eq
    rw [List.length_cons] at h1
    rw [if_neg (by simp), h1]
theorem dropX_len {l : List (HK × Int)} {k : HK} (hn : (l.map (·.1)).Nodup) : (dropL l k).length + (if lk l k = none then 0 else 1) = l.length := by
  unfold dropL
  cases h : lk l k with
  | none => rw [filter_absent h, if_pos rfl]; rfl
  | some u =>
    have h1 := (filter_present hn (lk_mem h)).length_eq
    rw [List.length_cons] at h1
    rw [if_neg (by simp), h1]
/-- With no key there is no entry. -/
theorem XT.nothing {l : List (HK × Int)} (h : XT [] l) : l = [] := by
  cases l with
  | nil => rfl
  | cons e l =>
    obtain ⟨b, hb, he⟩ := h.only e (by simp)
    have h1 := h.get hb e.1.2
    rw [show (((b : Int), e.1.2) : HK) = e.1 from Prod.ext he.symm rfl] at h1
    have h2 : lk (e :: l) e.1 ≠ none := by
      intro hh
      exact lk_none.1 hh e (by simp) rfl
    rw [h1] at h2
    exact absurd (by simp [spn, msk]) h2
end Go.Proofs.Ytfioekkegihkoaa

/- x-fast tries (plain): where a key would stand; its neighbors. -/
namespace Go.Proofs.Ytfioekkegihkoaa
set_option linter.unusedVariables false
theorem split_at (k : Int) : ∀ {L : CL}, L.Pairwise (fun e f => e.2 < f.2) → ∃ A B, L = A ++ B ∧ (∀ e ∈ A, e.2 < k) ∧ (∀ e ∈ B, k ≤ e.2)
  | [], _ => ⟨[], [], rfl, by simp, by simp⟩
  | e :: L, h => by
    rw [List.pairwise_cons] at h
    by_cases hk : e.2 < k
    · obtain ⟨A, B, rfl, h1, h2⟩ := split_at k h.2
      exact ⟨e :: A, B, rfl, fun f hf => by
        rcases List.mem_cons.1 hf with rfl | hf
        · exact hk
        · exact h1 f hf, h2⟩
    · refine ⟨[], e :: L, rfl, by simp, fun f hf => ?_⟩
      rcases List.mem_cons.1 hf with rfl | hf
      · omega
      · have := h.1 f hf; omega
def keysC (L : CL) : List Int := L.map (·.2)
section
variable {L A B : CL} {k : Int} {a b : Nat} {s : Int × Int}
theorem keysC_rises (h : L.Pairwise (fun e f => e.2 < f.2)) : (keysC L).Pairwise (· < ·) := by unfold keysC; rw [List.pairwise_map]; exact h
theorem keysC_app (A B : CL) : keysC (A ++ B) = keysC A ++ keysC B := by simp [keysC]
theorem keysC_len (L : CL) : (keysC L).length = L.length := by simp [keysC]
theorem keysC_mem {x : Int} : x ∈ keysC L ↔ ∃ e ∈ L, e.2 = x := by simp [keysC]
theorem rk_split (hA : ∀ e ∈ A, e.2 < k) (hB : ∀ e ∈ B, k ≤ e.2) : rk (keysC (A ++ B)) k = A.length := by
  unfold rk keysC
  rw [List.map_append, List.countP_append]
  have h1 : (A.map (·.2)).countP (fun x => decide (x < k)) = (A.map (·.2)).length := by
    rw [List.countP_eq_length]; intro x hx; obtain ⟨e, he, rfl⟩ := List.mem_map.1 hx; exact decide_eq_true (hA e he)
  have h2 : (B.map (·.2)).countP (fun x => decide (x < k)) = 0 := by
    rw [List.countP_eq_zero]; intro x hx; obtain ⟨e, he, rfl⟩ := List.mem_map.1 hx; have := hB e he; simp; omega
  rw [h1, h2, List.length_map]; omega
theorem next_split (hA : ∀ e ∈ A, e.2 < k) (hB : ∀ e ∈ B, k ≤ e.2) : selL (keysC (A ++ B)) (rk (keysC (A ++ B)) k) = match B with | [] => (0, false) | e :: _ => (e.2, true) := by
  rw [rk_split hA hB]
  cases B with
  | nil => rw [selL_no (by rw [keysC_len]; simp)]
  | cons e B =>
    rw [selL_yes (by rw [keysC_len]; simp)]
    congr 1
    rw [keysC_app, List.getD_eq_getElem?_getD, List.getElem?_append_right (by rw [keysC_len]; omega), keysC_len, Nat.sub_self]; rfl
theorem prev_split (hA : ∀ e ∈ A, e.2 < k) (hB : ∀ e ∈ B, k < e.2) : prevL64 (keysC (A ++ B)) k = match A.getLast? with | none => (0, false) | some e => (e.2, true) := by
  unfold prevL64
  have hn : k ∉ keysC (A ++ B) := by
    rw [keysC_mem]
    rintro ⟨e, he, rfl⟩
    rcases List.mem_append.1 he with h | h
    · have := hA e h; omega
    · have := hB e h; omega
  rw [if_neg hn, rk_split hA (fun e he => Int.le_of_lt (hB e he))]
  rcases List.eq_nil_or_concat A with rfl | ⟨C, e, h⟩
  · rw [selL_no (by simp)]; rfl
  · have h : A = C ++ [e] := by rw [h]; simp
    subst h
    have e1 : (((C ++ [e]).length : Nat) : Int) - 1 = (C.length : Nat) := by simp
    rw [e1, selL_yes (by rw [keysC_len]; simp), List.getLast?_concat]
    simp only
    congr 1
    rw [keysC_app, keysC_app, List.getD_eq_getElem?_getD, List.append_assoc, List.getElem?_append_right (by rw [keysC_len]; exact Nat.le_refl _), keysC_len, Nat.sub_self]; rfl
theorem prev_mem (h : k ∈ keysC L) : prevL64 (keysC L) k = (k, true) := by unfold prevL64; rw [if_pos h]
theorem next_mem (hl : L.Pairwise (fun e f => e.2 < f.2)) (h : k ∈ keysC L) : selL (keysC L) (rk (keysC L) k) = (k, true) := by
  obtain ⟨A, B, rfl, h1, h2⟩ := split_at k hl
  rw [next_split h1 h2]
  cases B with
  | nil =>
    obtain ⟨e, he, hk⟩ := keysC_mem.1 h
    rw [List.append_nil] at he
    have := h1 e he; omega
  | cons f B =>
    obtain ⟨e, he, hk⟩ := keysC_mem.1 h
    have h3 := (List.pairwise_append.1 hl).2.1
    rcases List.mem_append.1 he with he | he
    · have := h1 e he; omega
    · rcases List.mem_cons.1 he with rfl | he
      · simp only [hk]
      · have := (List.pairwise_cons.1 h3).1 e he
        have := h2 f (by simp)
        omega
/-- The bit behind the longest shared beginning is one: those stand ahead. -/
theorem side_hi (h : IsLong (A ++ B) k b) (hb : b < 64) (hx : XL (A ++ B)) (hA : ∀ e ∈ A, e.2 < k) (hB : ∀ e ∈ B, k < e.2) (hk : 0 ≤ k ∧ k < 18446744073709551616) (hs : spn (A ++ B) b (pfx k b) = some s) (h1 : pfx k (b + 1) % 2 = 1) :
    A ≠ [] ∧ s.2 = lsC A (-1) := by
  obtain ⟨g1, g2⟩ := (h.side hb hx hA hB hk).2 h1
  refine ⟨fun hh => by subst hh; exact g2 rfl, ?_⟩
  rw [spn_some (by rw [msk_app, g1, List.append_nil]; exact g2), msk_app, g1, List.append_nil] at hs
  injection hs with hs
  rw [← hs]; exact last_in hx.left hA g2
theorem side_lo (h : IsLong (A ++ B) k b) (hb : b < 64) (hx : XL (A ++ B)) (hA : ∀ e ∈ A, e.2 < k) (hB : ∀ e ∈ B, k < e.2) (hk : 0 ≤ k ∧ k < 18446744073709551616) (hs : spn (A ++ B) b (pfx k b) = some s) (h1 : pfx k (b + 1) % 2 = 0) :
    B ≠ [] ∧ s.1 = hdC B (-1) := by
  obtain ⟨g1, g2⟩ := (h.side hb hx hA hB hk).1 h1
  refine ⟨fun hh => by subst hh; exact g2 rfl, ?_⟩
  rw [spn_some (by rw [msk_app, g1, List.nil_append]; exact g2), msk_app, g1, List.nil_append] at hs
  injection hs with hs
  rw [← hs]; exact head_in hx.right hB g2
end
end Go.Proofs.Ytfioekkegihkoaa
