/- ArrayJoins: the walk. -/
import Derived.Test.YthcjnijggebcaaaSetL
import Derived.Test.YthcjnijggebcaaaArrD
import Derived.Test.YthcjnijggebcaaaJoin06
import Derived.Test.YthcjnijggebcaaaSame06
import Derived.Test.YthcjnijggebcaaaFew06
import Derived.Test.YthcjnijggebcaaaAw06
namespace Go.Proofs.Ythcjnijggebcaaa
open Go.RowKit
set_option linter.unusedVariables false
set_option linter.unusedSimpArgs false
theorem LSl.news {k : IntKind} {w w' : World} {v : Value} {ls : List (List Int)} (h : LSl k w v ls) (hm : Mod [] w w') : LSl k w' v ls := by
  obtain ⟨a, cap, rfl, h1, h2, h3⟩ := h
  refine ⟨a, cap, rfl, h1, h2, ?_⟩
  rcases h3 with rfl | ⟨b, off, rfl, h4⟩
  · exact .inl rfl
  · refine .inr ⟨b, off, rfl, fun i l hi => ?_⟩
    obtain ⟨u, hc, hu⟩ := h4 i l hi
    exact ⟨u, (Below.cell (p := ⟨b, off + i, none⟩) hm.below' (by simpa using World.block_lt_of_cell? w _ hc)).trans hc, hu.news hm⟩
theorem LSl.pre {k : IntKind} {w : World} {a : Option Addr} {n cap j : Nat} {ls : List (List Int)} (h : LSl k w (.slice a n cap) ls) (hj : j ≤ n) : LSl k w (.slice a j cap) (ls.take j) := by
  obtain ⟨a', cap', he, h1, h2, h3⟩ := h
  injection he with e1 e2 e3
  subst e1 e2 e3
  refine ⟨a, cap, by rw [List.length_take, Nat.min_eq_left hj], by rw [List.length_take]; omega, h2, ?_⟩
  rcases h3 with rfl | ⟨b, off, rfl, h4⟩
  · exact .inl (by simp)
  · refine .inr ⟨b, off, rfl, fun i l hi => ?_⟩
    rw [List.getElem?_take] at hi
    split at hi
    · exact h4 i l hi
    · cases hi
theorem orL_from : ∀ (ls : List (List Int)) (acc : List Int), acc.Pairwise (· < ·) → (∀ l ∈ ls, l.Pairwise (· < ·)) →
    (ls.foldl (fun a b => mg (fun _ => true) a b) acc).Pairwise (· < ·) ∧ ∀ x, x ∈ ls.foldl (fun a b => mg (fun _ => true) a b) acc ↔ x ∈ acc ∨ ∃ l ∈ ls, x ∈ l := by
  intro ls
  induction ls with
  | nil => intro acc h _; exact ⟨h, fun x => by simp⟩
  | cons l ls ih =>
    intro acc h hl
    obtain ⟨h1, h2⟩ := mg_spec (fun _ => true) _ acc l (Nat.le_refl _) h (hl l (by simp))
    obtain ⟨h3, h4⟩ := ih (mg (fun _ => true) acc l) h1 (fun l' hl' => hl l' (by simp [hl']))
    refine ⟨h3, fun x => ?_⟩
    rw [List.foldl_cons, h4, h2]
    by_cases hx : x ∈ acc <;> by_cases hy : x ∈ l <;> simp [hx, hy]
theorem andL_from : ∀ (ls : List (List Int)) (acc : List Int), acc.Pairwise (· < ·) → (∀ l ∈ ls, l.Pairwise (· < ·)) →
    (ls.foldl (fun a b => mg (fun k => k == 4) a b) acc).Pairwise (· < ·) ∧ ∀ x, x ∈ ls.foldl (fun a b => mg (fun k => k == 4) a b) acc ↔ x ∈ acc ∧ ∀ l ∈ ls, x ∈ l := by
  intro ls
  induction ls with
  | nil => intro acc h _; exact ⟨h, fun x => by simp⟩
  | cons l ls ih =>
    intro acc h hl
    obtain ⟨h1, h2⟩ := mg_spec (fun k => k == 4) _ acc l (Nat.le_refl _) h (hl l (by simp))
    obtain ⟨h3, h4⟩ := ih (mg (fun k => k == 4) acc l) h1 (fun l' hl' => hl l' (by simp [hl']))
    refine ⟨h3, fun x => ?_⟩
    rw [List.foldl_cons, h4, h2]
    by_cases hx : x ∈ acc <;> by_cases hy : x ∈ l <;> simp [hx, hy]
/-- What one of them has. -/
def oneF (ls : List (List Int)) (j : Nat) : Bool := decide (∃ l ∈ ls, (j : Int) ∈ l)
/-- What all of them have (none of none). -/
def allF (ls : List (List Int)) (j : Nat) : Bool := decide (ls ≠ [] ∧ ∀ l ∈ ls, (j : Int) ∈ l)
def Nums (l : List Int) : Prop := l.Pairwise (· < ·) ∧ ∀ x ∈ l, 0 ≤ x ∧ x < 65536
theorem lst_nums {f : Nat → Bool} {l : List Int} (h : Nums l) (hf : ∀ i, i < Most → f i = decide ((i : Int) ∈ l)) : lst f = l := by
  rw [lst_asc h.2 hf, asc_self h.1]
theorem orL_nums {ls : List (List Int)} (h : ∀ l ∈ ls, Nums l) : Nums (orL ls) ∧ ∀ x, x ∈ orL ls ↔ ∃ l ∈ ls, x ∈ l := by
  obtain ⟨h1, h2⟩ := orL_from ls [] List.Pairwise.nil (fun l hl => (h l hl).1)
  have h3 : ∀ x, x ∈ orL ls ↔ ∃ l ∈ ls, x ∈ l := fun x => by unfold orL; rw [h2]; simp
  exact ⟨⟨h1, fun x hx => by obtain ⟨l, hl, hx⟩ := (h3 x).1 hx; exact (h l hl).2 x hx⟩, h3⟩
theorem andL_nums {ls : List (List Int)} (h : ∀ l ∈ ls, Nums l) : Nums (andL ls) ∧ ∀ x, x ∈ andL ls ↔ ls ≠ [] ∧ ∀ l ∈ ls, x ∈ l := by
  cases ls with
  | nil => exact ⟨⟨List.Pairwise.nil, fun x hx => by cases hx⟩, fun x => by simp [andL]⟩
  | cons l ls =>
    obtain ⟨h1, h2⟩ := andL_from ls l (h l (by simp)).1 (fun l' hl => (h l' (by simp [hl])).1)
    have h3 : ∀ x, x ∈ andL (l :: ls) ↔ (l :: ls) ≠ [] ∧ ∀ l' ∈ l :: ls, x ∈ l' := fun x => by unfold andL; rw [h2]; simp
    exact ⟨⟨h1, fun x hx => (h l (by simp)).2 x (((h3 x).1 hx).2 l (by simp))⟩, h3⟩
theorem lst_one {ls : List (List Int)} (h : ∀ l ∈ ls, Nums l) : lst (oneF ls) = orL ls :=
  lst_nums (orL_nums h).1 (fun i _ => by unfold oneF; rw [decide_eq_decide]; exact ((orL_nums h).2 i).symm)
theorem lst_all {ls : List (List Int)} (h : ∀ l ∈ ls, Nums l) : lst (allF ls) = andL ls :=
  lst_nums (andL_nums h).1 (fun i _ => by unfold allF; rw [decide_eq_decide]; exact ((andL_nums h).2 i).symm)
theorem mg_nums (f : Nat → Bool) {a b : List Int} (ha : Nums a) (hb : Nums b) : Nums (mg f a b) := by
  obtain ⟨h1, h2⟩ := mg_spec f _ a b (Nat.le_refl _) ha.1 hb.1
  refine ⟨h1, fun x hx => ?_⟩
  rcases (h2 x).1 hx with ⟨h, _⟩ | ⟨_, h, _⟩ | ⟨h, _⟩
  · exact ha.2 x h
  · exact hb.2 x h
  · exact ha.2 x h
theorem lst_less {a b : List Int} (ha : Nums a) (hb : Nums b) : lst (fun i => joinB 2 (decide ((i : Int) ∈ a)) (decide ((i : Int) ∈ b))) = mg (fun k => k == 1) a b :=
  lst_nums (mg_nums _ ha hb) (fun i _ => by
    have := (mg_spec (fun k => k == 1) _ a b (Nat.le_refl _) ha.1 hb.1).2 i
    rw [Bool.eq_iff_iff, decide_eq_true_iff, this]
    by_cases hx : (i : Int) ∈ a <;> by_cases hy : (i : Int) ∈ b <;> simp [joinB, hx, hy])
theorem lst_xor {a b : List Int} (ha : Nums a) (hb : Nums b) : lst (fun i => joinB 3 (decide ((i : Int) ∈ a)) (decide ((i : Int) ∈ b))) = mg (fun k => k == 1 || k == 2) a b :=
  lst_nums (mg_nums _ ha hb) (fun i _ => by
    have := (mg_spec (fun k => k == 1 || k == 2) _ a b (Nat.le_refl _) ha.1 hb.1).2 i
    rw [Bool.eq_iff_iff, decide_eq_true_iff, this]
    by_cases hx : (i : Int) ∈ a <;> by_cases hy : (i : Int) ∈ b <;> simp [joinB, hx, hy])
theorem oneF_step {ls : List (List Int)} {i : Nat} {l : List Int} (h : ls[i]? = some l) (j : Nat) : joinB 0 (oneF (ls.take i) j) (decide ((j : Int) ∈ l)) = oneF (ls.take (i + 1)) j := by
  unfold oneF joinB
  rw [List.take_add_one, h, if_pos rfl, ← Bool.decide_or, decide_eq_decide]
  simp only [List.mem_append, Option.toList_some, List.mem_singleton]
  constructor
  · rintro (⟨l', h1, h2⟩ | h1)
    · exact ⟨l', .inl h1, h2⟩
    · exact ⟨l, .inr rfl, h1⟩
  · rintro ⟨l', h1 | rfl, h2⟩
    · exact .inl ⟨l', h1, h2⟩
    · exact .inr h2
theorem allF_step {ls : List (List Int)} {i : Nat} {l : List Int} (h : ls[i]? = some l) (j : Nat) : joinB 1 (if i = 0 then decide ((j : Int) ∈ l) else allF (ls.take i) j) (decide ((j : Int) ∈ l)) = allF (ls.take (i + 1)) j := by
  have hil : i < ls.length := by obtain ⟨h1, _⟩ := List.getElem?_eq_some_iff.1 h; exact h1
  unfold allF joinB
  rw [List.take_add_one, h]
  by_cases hi : i = 0
  · subst hi; simp
  · rw [if_neg (by decide), if_pos rfl, if_neg hi, ← Bool.decide_and, decide_eq_decide]
    have h1 : ls.take i ≠ [] := by intro h2; have := congrArg List.length h2; rw [List.length_take, List.length_nil, Nat.min_eq_left (Nat.le_of_lt hil)] at this; exact hi this
    simp only [ne_eq, h1, not_false_eq_true, true_and, List.append_eq_nil_iff, false_and, List.mem_append, Option.toList_some, List.mem_singleton]
    constructor
    · rintro ⟨h2, h3⟩ l' (h4 | rfl)
      · exact h2 l' h4
      · exact h3
    · intro h2
      exact ⟨fun l' h4 => h2 l' (.inl h4), h2 l (.inr rfl)⟩
theorem wf_u8' {x : Int} (h : (Lit.int .u8 x).wf = true) : 0 ≤ x ∧ x < 256 := by
  simp only [Lit.wf, decide_eq_true_eq, Bool.and_eq_true] at h
  have h1 : IntKind.min .u8 = 0 := by decide
  have h2 : IntKind.max .u8 = 255 := by decide
  rw [h1, h2] at h
  omega
theorem Nums.length {l : List Int} (h : Nums l) : l.length ≤ 65536 := by
  have := lst_nums (f := fun i => decide ((i : Int) ∈ l)) h (fun _ _ => rfl)
  rw [← this, lst_length]
  exact cntN_le Most
set_option maxHeartbeats 4000000 in
set_option maxRecDepth 100000 in
theorem arrayJoins_walk {w : World} (a0 : Option Addr) (len0 cap0 : Nat) (z0 : List Int) (a1 : Option Addr) (len1 cap1 : Nat) (z1 : List Int) (a2 : Option Addr) (len2 cap2 : Nat) (z2 : List Int) (a3 : Int) (w0 : IntRow .u16 w a0 len0 cap0 z0) (y0 : len0 * 2 ≤ 140737488351232) (w1 : IntRow .u16 w a1 len1 cap1 z1) (y1 : len1 * 2 ≤ 140737488351232) (w2 : IntRow .u16 w a2 len2 cap2 z2) (y2 : len2 * 2 ≤ 140737488351232) (w3 : (Lit.int .u8 a3).wf = true) :
    Calls Try.prog 10 #[.slice a0 len0 cap0, .slice a1 len1 cap1, .slice a2 len2 cap2, .int .u8 a3] w fun e w' => e = .returned (.bool true) ∧ Below w.heap.size w w' := by
  obtain ⟨hsl0, hlen0⟩ := w0.isl
  have hb0 := w0.bnds
  have HB0 : Hidden (∀ x ∈ (z0.take len0).take 200, 0 ≤ x ∧ x < 65536) := ⟨fun x hx => wf_u16 (hb0 x (List.mem_of_mem_take (List.mem_of_mem_take hx)))⟩
  have HLN0 : Hidden (((z0.take len0).take 200).length ≤ 200) := ⟨by simp; omega⟩
  have G0 : Hidden (∀ W, Mod [] w W → _) := ⟨fun W hW => few06_call 200 (by decide) _ _ W (hsl0.news hW)⟩
  rw [hlen0] at G0
  obtain ⟨L0, hL0⟩ : ∃ L, (z0.take len0).take 200 = L := ⟨_, rfl⟩
  rw [hL0] at G0 HB0 HLN0
  have NX0 : Hidden (Nums (asc L0)) := ⟨asc_rises _, fun x hx => HB0.out x (asc_mem.1 hx)⟩
  have LX0 : Hidden ((asc L0).length ≤ 200) := ⟨by have := asc_le L0; have := HLN0.out; omega⟩
  clear hL0 hsl0 hlen0 hb0 w0 y0
  obtain ⟨hsl1, hlen1⟩ := w1.isl
  have hb1 := w1.bnds
  have HB1 : Hidden (∀ x ∈ (z1.take len1).take 200, 0 ≤ x ∧ x < 65536) := ⟨fun x hx => wf_u16 (hb1 x (List.mem_of_mem_take (List.mem_of_mem_take hx)))⟩
  have HLN1 : Hidden (((z1.take len1).take 200).length ≤ 200) := ⟨by simp; omega⟩
  have G1 : Hidden (∀ W, Mod [] w W → _) := ⟨fun W hW => few06_call 200 (by decide) _ _ W (hsl1.news hW)⟩
  rw [hlen1] at G1
  obtain ⟨L1, hL1⟩ : ∃ L, (z1.take len1).take 200 = L := ⟨_, rfl⟩
  rw [hL1] at G1 HB1 HLN1
  have NX1 : Hidden (Nums (asc L1)) := ⟨asc_rises _, fun x hx => HB1.out x (asc_mem.1 hx)⟩
  have LX1 : Hidden ((asc L1).length ≤ 200) := ⟨by have := asc_le L1; have := HLN1.out; omega⟩
  clear hL1 hsl1 hlen1 hb1 w1 y1
  obtain ⟨hsl2, hlen2⟩ := w2.isl
  have hb2 := w2.bnds
  have HB2 : Hidden (∀ x ∈ (z2.take len2).take 200, 0 ≤ x ∧ x < 65536) := ⟨fun x hx => wf_u16 (hb2 x (List.mem_of_mem_take (List.mem_of_mem_take hx)))⟩
  have HLN2 : Hidden (((z2.take len2).take 200).length ≤ 200) := ⟨by simp; omega⟩
  have G2 : Hidden (∀ W, Mod [] w W → _) := ⟨fun W hW => few06_call 200 (by decide) _ _ W (hsl2.news hW)⟩
  rw [hlen2] at G2
  obtain ⟨L2, hL2⟩ : ∃ L, (z2.take len2).take 200 = L := ⟨_, rfl⟩
  rw [hL2] at G2 HB2 HLN2
  have NX2 : Hidden (Nums (asc L2)) := ⟨asc_rises _, fun x hx => HB2.out x (asc_mem.1 hx)⟩
  have LX2 : Hidden ((asc L2).length ≤ 200) := ⟨by have := asc_le L2; have := HLN2.out; omega⟩
  clear hL2 hsl2 hlen2 hb2 w2 y2
  obtain ⟨hk0, hk1⟩ : 0 ≤ a3 ∧ a3 < 256 := wf_u8' w3
  obtain ⟨k, rfl⟩ := Int.eq_ofNat_of_zero_le hk0
  have hkw : k % 4 ≤ 3 := by omega
  clear w3
  go_enter Try.func10, Try.ntmps10
  go_wp2_with fail
  refine (awake06 _).mono ?_
  rintro e w1 ⟨rfl, hm⟩
  have HM := Hidden.mk hm
  clear hm
  go_wp2_with fail
  refine (G0.out _ HM.out).mono ?_
  rintro e w2 ⟨vf0, rfl, hW⟩
  have hmz := hW.mod
  replace HM := Hidden.mk (HM.out.trans hmz (by simp))
  have Ff0 := Hidden.mk (hW.isl.2)
  obtain ⟨pf0, cf0, rfl, _⟩ := Ff0.out.slice_
  clear hmz hW
  go_wp2_with fail
  refine (of16 Ff0.out (by have := HLN0.out; omega)).mono ?_
  rintro e w3 ⟨vx0, rfl, hW⟩
  have hmz := hW.mod
  replace HM := Hidden.mk (HM.out.trans hmz (by simp))
  replace Ff0 := Hidden.mk (Ff0.out.news hmz)
  have Xx0 := Hidden.mk (hW.isl.2)
  obtain ⟨px0, cx0, rfl, _⟩ := Xx0.out.slice_
  clear hmz hW
  clear Ff0
  go_wp2_with fail
  refine (G1.out _ HM.out).mono ?_
  rintro e w4 ⟨vf1, rfl, hW⟩
  have hmz := hW.mod
  replace HM := Hidden.mk (HM.out.trans hmz (by simp))
  replace Xx0 := Hidden.mk (Xx0.out.news hmz)
  have Ff1 := Hidden.mk (hW.isl.2)
  obtain ⟨pf1, cf1, rfl, _⟩ := Ff1.out.slice_
  clear hmz hW
  go_wp2_with fail
  refine (of16 Ff1.out (by have := HLN1.out; omega)).mono ?_
  rintro e w5 ⟨vx1, rfl, hW⟩
  have hmz := hW.mod
  replace HM := Hidden.mk (HM.out.trans hmz (by simp))
  replace Xx0 := Hidden.mk (Xx0.out.news hmz)
  replace Ff1 := Hidden.mk (Ff1.out.news hmz)
  have Xx1 := Hidden.mk (hW.isl.2)
  obtain ⟨px1, cx1, rfl, _⟩ := Xx1.out.slice_
  clear hmz hW
  clear Ff1
  go_wp2_with fail
  refine (G2.out _ HM.out).mono ?_
  rintro e w6 ⟨vf2, rfl, hW⟩
  have hmz := hW.mod
  replace HM := Hidden.mk (HM.out.trans hmz (by simp))
  replace Xx0 := Hidden.mk (Xx0.out.news hmz)
  replace Xx1 := Hidden.mk (Xx1.out.news hmz)
  have Ff2 := Hidden.mk (hW.isl.2)
  obtain ⟨pf2, cf2, rfl, _⟩ := Ff2.out.slice_
  clear hmz hW
  go_wp2_with fail
  refine (of16 Ff2.out (by have := HLN2.out; omega)).mono ?_
  rintro e w7 ⟨vx2, rfl, hW⟩
  have hmz := hW.mod
  replace HM := Hidden.mk (HM.out.trans hmz (by simp))
  replace Xx0 := Hidden.mk (Xx0.out.news hmz)
  replace Xx1 := Hidden.mk (Xx1.out.news hmz)
  replace Ff2 := Hidden.mk (Ff2.out.news hmz)
  have Xx2 := Hidden.mk (hW.isl.2)
  obtain ⟨px2, cx2, rfl, _⟩ := Xx2.out.slice_
  clear hmz hW
  clear Ff2
  go_wp2_with fail
  obtain ⟨w8, hw8⟩ : ∃ W, w7.alloc (.cells #[.slice px0 (asc L0).length cx0, .slice px1 (asc L1).length cx1, .slice px2 (asc L2).length cx2] 22) = W := ⟨_, rfl⟩
  rw [hw8]
  obtain ⟨ls, hls⟩ : ∃ ls, [asc L0, asc L1, asc L2].take (k % 4) = ls := ⟨_, rfl⟩
  obtain ⟨b8, hb8⟩ : ∃ b, w7.heap.size = b := ⟨_, rfl⟩
  rw [hb8]
  have HLS : Hidden (LSl .u16 w8 (.slice (some ⟨b8, 0, none⟩) (k % 4) 3) ls) := ⟨by rw [← hw8, ← hls]; exact (LSl.new3 hb8 Xx0.out Xx1.out Xx2.out).pre hkw⟩
  have NLS : Hidden (∀ l ∈ ls, Nums l) := ⟨fun l hl => by
    rw [← hls] at hl
    have := List.mem_of_mem_take hl
    simp only [List.mem_cons, List.not_mem_nil, or_false] at this
    rcases this with rfl | rfl | rfl
    · exact NX0.out
    · exact NX1.out
    · exact NX2.out⟩
  have LLS : Hidden (∀ l ∈ ls, l.length ≤ 200) := ⟨fun l hl => by
    rw [← hls] at hl
    have := List.mem_of_mem_take hl
    simp only [List.mem_cons, List.not_mem_nil, or_false] at this
    rcases this with rfl | rfl | rfl
    · exact LX0.out
    · exact LX1.out
    · exact LX2.out⟩
  have hm8 : ls.length = k % 4 := by rw [← hls, List.length_take]; simp; omega
  have hmz : Mod [] w7 w8 := by rw [← hw8]; exact (Mod.refl [] _).alloc _
  replace HM := Hidden.mk (HM.out.trans hmz (by simp))
  clear hmz hw8 hls hb8 Xx0 Xx1 Xx2 NX2 LX2 G2 HLN2 HB2
  generalize k % 4 = m at *
  have HM8 := Hidden.mk hm8
  clear hm8
  go_wp2_with fail
  refine (new06 _).mono ?_
  rintro e w9 ⟨v1, rfl, hs, hW, _⟩
  have hmz := hW
  replace HM := Hidden.mk (HM.out.trans hmz (by simp))
  replace HLS := Hidden.mk (HLS.out.news hmz)
  have S1 := Hidden.mk (hs)
  clear hs
  clear hmz hW
  go_wp2_with fail
  refine (new06 _).mono ?_
  rintro e w10 ⟨v2, rfl, hs, hW, _⟩
  have hmz := hW
  replace HM := Hidden.mk (HM.out.trans hmz (by simp))
  replace HLS := Hidden.mk (HLS.out.news hmz)
  replace S1 := Hidden.mk (S1.out.news hmz)
  have S2 := Hidden.mk (hs)
  clear hs
  clear hmz hW
  go_wp2_with fail
  go_loopw [10, 11, 38] (fun u1 u2 vi wr => ∃ i : Nat, i ≤ m ∧ vi = .int .i64 i ∧ BS 4 wr u1 (oneF (ls.take i)) ∧ BS 4 wr u2 (allF (ls.take i)) ∧ Mod [] w10 wr) (fun _ _ vi _ => m - (intOf vi).toNat)
  case atStart => exact ⟨0, by omega, rfl, S1.out.congr (fun j _ => by simp [oneF]), S2.out.congr (fun j _ => by simp [allF]), Mod.refl [] _⟩
  case round =>
    obtain ⟨i, hi, rfl, hs1, hs2, hm⟩ := hrel
    by_cases hin : i < m
    · obtain ⟨g, off, u, l, he, hg, hl, hc, hu⟩ := (HLS.out.news hm).get (i := i) (by rw [HM8.out]; exact hin)
      injection he with he
      injection he with he1 he2
      subst he1 he2
      obtain ⟨p, c, rfl, _⟩ := hu.slice_
      obtain ⟨q1, rfl, _⟩ := hs1.at_
      obtain ⟨q2, rfl, _⟩ := hs2.at_
      rw [Nat.zero_add] at hc
      have NL := NLS.out l (List.mem_of_getElem? hl)
      have K1 := Hidden.mk (of06 hu (by have := LLS.out l (List.mem_of_getElem? hl); omega) NL.2)
      have HS1 := Hidden.mk hs1
      have HS2 := Hidden.mk hs2
      have HLI := Hidden.mk hl
      have HMI := Hidden.mk hm
      clear hl hm hs1 hs2 NL hu
      go_wp2_with fail
      refine K1.out.mono ?_
      rintro e W1 ⟨v, rfl, hs, hW, _⟩
      obtain ⟨q3, rfl, _⟩ := hs.at_
      have HS3 := Hidden.mk hs
      replace HS1 := Hidden.mk (HS1.out.news hW)
      replace HS2 := Hidden.mk (HS2.out.news hW)
      replace HMI := Hidden.mk (HMI.out.trans hW (by simp))
      clear hs hW K1
      go_wp2_with fail
      refine (join06 HS1.out HS3.out 0 (by decide)).mono ?_
      rintro e W2 ⟨v, rfl, hs, hW, _⟩
      have HS4 := Hidden.mk (hs.congr (fun j _ => oneF_step HLI.out j))
      replace HS3 := Hidden.mk (HS3.out.news hW)
      replace HS2 := Hidden.mk (HS2.out.news hW)
      replace HMI := Hidden.mk (HMI.out.trans hW (by simp))
      clear hs hW
      by_cases hi0 : i = 0
      · have hz : decide ((i : Int) = 0) = true := decide_eq_true (by omega)
        have hz2 : ((i : Int) == 0) = true := by simp; exact hi0
        go_wp2_with fail
        refine (join06 HS3.out HS3.out 1 (by decide)).mono ?_
        rintro e W3 ⟨v, rfl, hs, hW, _⟩
        have HS5 := Hidden.mk (hs.congr (g := allF (ls.take (i + 1))) (fun j _ => by rw [← allF_step HLI.out j, if_pos hi0]))
        replace HS4 := Hidden.mk (HS4.out.news hW)
        replace HMI := Hidden.mk (HMI.out.trans hW (by simp))
        clear hs hW
        go_wp2_with fail
        go_roundw
        case rel => exact ⟨i + 1, by omega, by go_num, HS4.out, HS5.out, HMI.out⟩
        case measure => simp [intOf]; omega
      · have hz : decide ((i : Int) = 0) = false := decide_eq_false (by omega)
        have hz2 : ((i : Int) == 0) = false := by simp; exact hi0
        go_wp2_with fail
        refine (join06 HS2.out HS3.out 1 (by decide)).mono ?_
        rintro e W3 ⟨v, rfl, hs, hW, _⟩
        have HS5 := Hidden.mk (hs.congr (g := allF (ls.take (i + 1))) (fun j _ => by rw [← allF_step HLI.out j, if_neg hi0]))
        replace HS4 := Hidden.mk (HS4.out.news hW)
        replace HMI := Hidden.mk (HMI.out.trans hW (by simp))
        clear hs hW
        go_wp2_with fail
        go_roundw
        case rel => exact ⟨i + 1, by omega, by go_num, HS4.out, HS5.out, HMI.out⟩
        case measure => simp [intOf]; omega
    · have hie : i = m := by omega
      subst hie
      have hta : ls.take i = ls := List.take_of_length_le (by rw [HM8.out]; exact Nat.le_refl _)
      rw [hta] at hs1 hs2
      obtain ⟨q1, rfl, _⟩ := hs1.at_
      obtain ⟨q2, rfl, _⟩ := hs2.at_
      replace S1 := Hidden.mk hs1
      replace S2 := Hidden.mk hs2
      replace HLS := Hidden.mk (HLS.out.news hm)
      replace HM := Hidden.mk (HM.out.trans hm (by simp))
      clear hs1 hs2 hm hta hi hin
      go_wp2_with fail
      refine (G0.out _ HM.out).mono ?_
      rintro e w11 ⟨vg0, rfl, hW⟩
      have hmz := hW.mod
      replace HM := Hidden.mk (HM.out.trans hmz (by simp))
      replace HLS := Hidden.mk (HLS.out.news hmz)
      replace S1 := Hidden.mk (S1.out.news hmz)
      replace S2 := Hidden.mk (S2.out.news hmz)
      have Fg0 := Hidden.mk (hW.isl.2)
      obtain ⟨pg0, cg0, rfl, _⟩ := Fg0.out.slice_
      clear hmz hW
      go_wp2_with fail
      refine (of16 Fg0.out (by have := HLN0.out; omega)).mono ?_
      rintro e w12 ⟨vy0, rfl, hW⟩
      have hmz := hW.mod
      replace HM := Hidden.mk (HM.out.trans hmz (by simp))
      replace HLS := Hidden.mk (HLS.out.news hmz)
      replace S1 := Hidden.mk (S1.out.news hmz)
      replace S2 := Hidden.mk (S2.out.news hmz)
      replace Fg0 := Hidden.mk (Fg0.out.news hmz)
      have Xy0 := Hidden.mk (hW.isl.2)
      obtain ⟨py0, cy0, rfl, _⟩ := Xy0.out.slice_
      clear hmz hW
      clear Fg0
      go_wp2_with fail
      refine (G1.out _ HM.out).mono ?_
      rintro e w13 ⟨vg1, rfl, hW⟩
      have hmz := hW.mod
      replace HM := Hidden.mk (HM.out.trans hmz (by simp))
      replace HLS := Hidden.mk (HLS.out.news hmz)
      replace S1 := Hidden.mk (S1.out.news hmz)
      replace S2 := Hidden.mk (S2.out.news hmz)
      replace Xy0 := Hidden.mk (Xy0.out.news hmz)
      have Fg1 := Hidden.mk (hW.isl.2)
      obtain ⟨pg1, cg1, rfl, _⟩ := Fg1.out.slice_
      clear hmz hW
      go_wp2_with fail
      refine (of16 Fg1.out (by have := HLN1.out; omega)).mono ?_
      rintro e w14 ⟨vy1, rfl, hW⟩
      have hmz := hW.mod
      replace HM := Hidden.mk (HM.out.trans hmz (by simp))
      replace HLS := Hidden.mk (HLS.out.news hmz)
      replace S1 := Hidden.mk (S1.out.news hmz)
      replace S2 := Hidden.mk (S2.out.news hmz)
      replace Xy0 := Hidden.mk (Xy0.out.news hmz)
      replace Fg1 := Hidden.mk (Fg1.out.news hmz)
      have Xy1 := Hidden.mk (hW.isl.2)
      obtain ⟨py1, cy1, rfl, _⟩ := Xy1.out.slice_
      clear hmz hW
      clear Fg1
      go_wp2_with fail
      refine (of06 Xy0.out (by have := LX0.out; omega) NX0.out.2).mono ?_
      rintro e w15 ⟨vs, rfl, hs, hW, _⟩
      have hmz := hW
      replace HM := Hidden.mk (HM.out.trans hmz (by simp))
      replace HLS := Hidden.mk (HLS.out.news hmz)
      replace S1 := Hidden.mk (S1.out.news hmz)
      replace S2 := Hidden.mk (S2.out.news hmz)
      replace Xy0 := Hidden.mk (Xy0.out.news hmz)
      replace Xy1 := Hidden.mk (Xy1.out.news hmz)
      have Ts := Hidden.mk (hs)
      clear hs
      obtain ⟨qs, rfl, _⟩ := Ts.out.at_
      clear hmz hW
      go_wp2_with fail
      refine (of06 Xy1.out (by have := LX1.out; omega) NX1.out.2).mono ?_
      rintro e w16 ⟨vt, rfl, hs, hW, _⟩
      have hmz := hW
      replace HM := Hidden.mk (HM.out.trans hmz (by simp))
      replace HLS := Hidden.mk (HLS.out.news hmz)
      replace S1 := Hidden.mk (S1.out.news hmz)
      replace S2 := Hidden.mk (S2.out.news hmz)
      replace Xy0 := Hidden.mk (Xy0.out.news hmz)
      replace Xy1 := Hidden.mk (Xy1.out.news hmz)
      replace Ts := Hidden.mk (Ts.out.news hmz)
      have Tt := Hidden.mk (hs)
      clear hs
      obtain ⟨qt, rfl, _⟩ := Tt.out.at_
      clear hmz hW
      go_wp2_with fail
      refine (or_16 HLS.out (by rw [HM8.out]; omega) (fun l hl => by have := LLS.out l hl; omega)).mono ?_
      rintro e w17 ⟨v1, rfl, hW⟩
      have hmz := hW.mod
      replace HM := Hidden.mk (HM.out.trans hmz (by simp))
      replace HLS := Hidden.mk (HLS.out.news hmz)
      replace S1 := Hidden.mk (S1.out.news hmz)
      replace S2 := Hidden.mk (S2.out.news hmz)
      replace Xy0 := Hidden.mk (Xy0.out.news hmz)
      replace Xy1 := Hidden.mk (Xy1.out.news hmz)
      replace Ts := Hidden.mk (Ts.out.news hmz)
      replace Tt := Hidden.mk (Tt.out.news hmz)
      have R1 := Hidden.mk (hW.isl.2)
      obtain ⟨p1, c1, rfl, _⟩ := R1.out.slice_
      clear hmz hW
      go_wp2_with fail
      refine (list06 S1.out).mono ?_
      rintro e w18 ⟨v2, rfl, hW⟩
      have hmz := hW.mod
      replace HM := Hidden.mk (HM.out.trans hmz (by simp))
      replace HLS := Hidden.mk (HLS.out.news hmz)
      replace S1 := Hidden.mk (S1.out.news hmz)
      replace S2 := Hidden.mk (S2.out.news hmz)
      replace Xy0 := Hidden.mk (Xy0.out.news hmz)
      replace Xy1 := Hidden.mk (Xy1.out.news hmz)
      replace Ts := Hidden.mk (Ts.out.news hmz)
      replace Tt := Hidden.mk (Tt.out.news hmz)
      replace R1 := Hidden.mk (R1.out.news hmz)
      have R2 := Hidden.mk (hW.isl.2)
      rw [lst_one NLS.out] at R2
      obtain ⟨p2, c2, rfl, _⟩ := R2.out.slice_
      clear hmz hW
      have HQ := Hidden.mk (same06 R1.out R2.out (Nat.le_trans (Nums.length ((orL_nums NLS.out).1)) (by decide)) (Nat.le_trans (Nums.length ((orL_nums NLS.out).1)) (by decide)))
      rw [decide_eq_true rfl] at HQ
      go_wp2_with fail
      refine HQ.out.mono ?_
      rintro e w19 ⟨rfl, q, hW⟩
      have hmz : Mod [] w18 w19 := by rw [hW]; exact (Mod.refl [] _).drewN q
      replace HM := Hidden.mk (HM.out.trans hmz (by simp))
      replace HLS := Hidden.mk (HLS.out.news hmz)
      replace S1 := Hidden.mk (S1.out.news hmz)
      replace S2 := Hidden.mk (S2.out.news hmz)
      replace Xy0 := Hidden.mk (Xy0.out.news hmz)
      replace Xy1 := Hidden.mk (Xy1.out.news hmz)
      replace Ts := Hidden.mk (Ts.out.news hmz)
      replace Tt := Hidden.mk (Tt.out.news hmz)
      clear hmz hW HQ R1 R2
      go_wp2_with fail
      refine (and_16 HLS.out (by rw [HM8.out]; omega) (fun l hl => by have := LLS.out l hl; omega)).mono ?_
      rintro e w20 ⟨v3, rfl, hW⟩
      have hmz := hW.mod
      replace HM := Hidden.mk (HM.out.trans hmz (by simp))
      replace HLS := Hidden.mk (HLS.out.news hmz)
      replace S1 := Hidden.mk (S1.out.news hmz)
      replace S2 := Hidden.mk (S2.out.news hmz)
      replace Xy0 := Hidden.mk (Xy0.out.news hmz)
      replace Xy1 := Hidden.mk (Xy1.out.news hmz)
      replace Ts := Hidden.mk (Ts.out.news hmz)
      replace Tt := Hidden.mk (Tt.out.news hmz)
      have R3 := Hidden.mk (hW.isl.2)
      obtain ⟨p3, c3, rfl, _⟩ := R3.out.slice_
      clear hmz hW
      go_wp2_with fail
      refine (list06 S2.out).mono ?_
      rintro e w21 ⟨v4, rfl, hW⟩
      have hmz := hW.mod
      replace HM := Hidden.mk (HM.out.trans hmz (by simp))
      replace HLS := Hidden.mk (HLS.out.news hmz)
      replace S1 := Hidden.mk (S1.out.news hmz)
      replace S2 := Hidden.mk (S2.out.news hmz)
      replace Xy0 := Hidden.mk (Xy0.out.news hmz)
      replace Xy1 := Hidden.mk (Xy1.out.news hmz)
      replace Ts := Hidden.mk (Ts.out.news hmz)
      replace Tt := Hidden.mk (Tt.out.news hmz)
      replace R3 := Hidden.mk (R3.out.news hmz)
      have R4 := Hidden.mk (hW.isl.2)
      rw [lst_all NLS.out] at R4
      obtain ⟨p4, c4, rfl, _⟩ := R4.out.slice_
      clear hmz hW
      have HQ := Hidden.mk (same06 R3.out R4.out (Nat.le_trans (Nums.length ((andL_nums NLS.out).1)) (by decide)) (Nat.le_trans (Nums.length ((andL_nums NLS.out).1)) (by decide)))
      rw [decide_eq_true rfl] at HQ
      go_wp2_with fail
      refine HQ.out.mono ?_
      rintro e w22 ⟨rfl, q, hW⟩
      have hmz : Mod [] w21 w22 := by rw [hW]; exact (Mod.refl [] _).drewN q
      replace HM := Hidden.mk (HM.out.trans hmz (by simp))
      replace HLS := Hidden.mk (HLS.out.news hmz)
      replace S1 := Hidden.mk (S1.out.news hmz)
      replace S2 := Hidden.mk (S2.out.news hmz)
      replace Xy0 := Hidden.mk (Xy0.out.news hmz)
      replace Xy1 := Hidden.mk (Xy1.out.news hmz)
      replace Ts := Hidden.mk (Ts.out.news hmz)
      replace Tt := Hidden.mk (Tt.out.news hmz)
      clear hmz hW HQ R3 R4
      go_wp2_with fail
      refine (less_16 Xy0.out Xy1.out (by have := LX0.out; omega) (by have := LX1.out; omega)).mono ?_
      rintro e w23 ⟨v5, rfl, hW⟩
      have hmz := hW.mod
      replace HM := Hidden.mk (HM.out.trans hmz (by simp))
      replace HLS := Hidden.mk (HLS.out.news hmz)
      replace S1 := Hidden.mk (S1.out.news hmz)
      replace S2 := Hidden.mk (S2.out.news hmz)
      replace Xy0 := Hidden.mk (Xy0.out.news hmz)
      replace Xy1 := Hidden.mk (Xy1.out.news hmz)
      replace Ts := Hidden.mk (Ts.out.news hmz)
      replace Tt := Hidden.mk (Tt.out.news hmz)
      have R5 := Hidden.mk (hW.isl.2)
      obtain ⟨p5, c5, rfl, _⟩ := R5.out.slice_
      clear hmz hW
      go_wp2_with fail
      refine (join06 Ts.out Tt.out 2 (by decide)).mono ?_
      rintro e w24 ⟨v5, rfl, hs, hW, _⟩
      have hmz := hW
      replace HM := Hidden.mk (HM.out.trans hmz (by simp))
      replace HLS := Hidden.mk (HLS.out.news hmz)
      replace S1 := Hidden.mk (S1.out.news hmz)
      replace S2 := Hidden.mk (S2.out.news hmz)
      replace Xy0 := Hidden.mk (Xy0.out.news hmz)
      replace Xy1 := Hidden.mk (Xy1.out.news hmz)
      replace Ts := Hidden.mk (Ts.out.news hmz)
      replace Tt := Hidden.mk (Tt.out.news hmz)
      replace R5 := Hidden.mk (R5.out.news hmz)
      have J5 := Hidden.mk (hs)
      clear hs
      clear hmz hW
      go_wp2_with fail
      refine (list06 J5.out).mono ?_
      rintro e w25 ⟨v6, rfl, hW⟩
      have hmz := hW.mod
      replace HM := Hidden.mk (HM.out.trans hmz (by simp))
      replace HLS := Hidden.mk (HLS.out.news hmz)
      replace S1 := Hidden.mk (S1.out.news hmz)
      replace S2 := Hidden.mk (S2.out.news hmz)
      replace Xy0 := Hidden.mk (Xy0.out.news hmz)
      replace Xy1 := Hidden.mk (Xy1.out.news hmz)
      replace Ts := Hidden.mk (Ts.out.news hmz)
      replace Tt := Hidden.mk (Tt.out.news hmz)
      replace R5 := Hidden.mk (R5.out.news hmz)
      replace J5 := Hidden.mk (J5.out.news hmz)
      have R6 := Hidden.mk (hW.isl.2)
      rw [lst_less NX0.out NX1.out] at R6
      obtain ⟨p6, c6, rfl, _⟩ := R6.out.slice_
      clear hmz hW
      have HQ := Hidden.mk (same06 R5.out R6.out (Nat.le_trans (Nums.length (mg_nums _ NX0.out NX1.out)) (by decide)) (Nat.le_trans (Nums.length (mg_nums _ NX0.out NX1.out)) (by decide)))
      rw [decide_eq_true rfl] at HQ
      go_wp2_with fail
      refine HQ.out.mono ?_
      rintro e w26 ⟨rfl, q, hW⟩
      have hmz : Mod [] w25 w26 := by rw [hW]; exact (Mod.refl [] _).drewN q
      replace HM := Hidden.mk (HM.out.trans hmz (by simp))
      replace HLS := Hidden.mk (HLS.out.news hmz)
      replace S1 := Hidden.mk (S1.out.news hmz)
      replace S2 := Hidden.mk (S2.out.news hmz)
      replace Xy0 := Hidden.mk (Xy0.out.news hmz)
      replace Xy1 := Hidden.mk (Xy1.out.news hmz)
      replace Ts := Hidden.mk (Ts.out.news hmz)
      replace Tt := Hidden.mk (Tt.out.news hmz)
      replace J5 := Hidden.mk (J5.out.news hmz)
      clear hmz hW HQ R5 R6
      go_wp2_with fail
      refine (xor_16 Xy0.out Xy1.out (by have := LX0.out; omega) (by have := LX1.out; omega)).mono ?_
      rintro e w27 ⟨v7, rfl, hW⟩
      have hmz := hW.mod
      replace HM := Hidden.mk (HM.out.trans hmz (by simp))
      replace HLS := Hidden.mk (HLS.out.news hmz)
      replace S1 := Hidden.mk (S1.out.news hmz)
      replace S2 := Hidden.mk (S2.out.news hmz)
      replace Xy0 := Hidden.mk (Xy0.out.news hmz)
      replace Xy1 := Hidden.mk (Xy1.out.news hmz)
      replace Ts := Hidden.mk (Ts.out.news hmz)
      replace Tt := Hidden.mk (Tt.out.news hmz)
      replace J5 := Hidden.mk (J5.out.news hmz)
      have R7 := Hidden.mk (hW.isl.2)
      obtain ⟨p7, c7, rfl, _⟩ := R7.out.slice_
      clear hmz hW
      go_wp2_with fail
      refine (join06 Ts.out Tt.out 3 (by decide)).mono ?_
      rintro e w28 ⟨v7, rfl, hs, hW, _⟩
      have hmz := hW
      replace HM := Hidden.mk (HM.out.trans hmz (by simp))
      replace HLS := Hidden.mk (HLS.out.news hmz)
      replace S1 := Hidden.mk (S1.out.news hmz)
      replace S2 := Hidden.mk (S2.out.news hmz)
      replace Xy0 := Hidden.mk (Xy0.out.news hmz)
      replace Xy1 := Hidden.mk (Xy1.out.news hmz)
      replace Ts := Hidden.mk (Ts.out.news hmz)
      replace Tt := Hidden.mk (Tt.out.news hmz)
      replace J5 := Hidden.mk (J5.out.news hmz)
      replace R7 := Hidden.mk (R7.out.news hmz)
      have J7 := Hidden.mk (hs)
      clear hs
      clear hmz hW
      go_wp2_with fail
      refine (list06 J7.out).mono ?_
      rintro e w29 ⟨v8, rfl, hW⟩
      have hmz := hW.mod
      replace HM := Hidden.mk (HM.out.trans hmz (by simp))
      replace HLS := Hidden.mk (HLS.out.news hmz)
      replace S1 := Hidden.mk (S1.out.news hmz)
      replace S2 := Hidden.mk (S2.out.news hmz)
      replace Xy0 := Hidden.mk (Xy0.out.news hmz)
      replace Xy1 := Hidden.mk (Xy1.out.news hmz)
      replace Ts := Hidden.mk (Ts.out.news hmz)
      replace Tt := Hidden.mk (Tt.out.news hmz)
      replace J5 := Hidden.mk (J5.out.news hmz)
      replace R7 := Hidden.mk (R7.out.news hmz)
      replace J7 := Hidden.mk (J7.out.news hmz)
      have R8 := Hidden.mk (hW.isl.2)
      rw [lst_xor NX0.out NX1.out] at R8
      obtain ⟨p8, c8, rfl, _⟩ := R8.out.slice_
      clear hmz hW
      have HQ := Hidden.mk (same06 R7.out R8.out (Nat.le_trans (Nums.length (mg_nums _ NX0.out NX1.out)) (by decide)) (Nat.le_trans (Nums.length (mg_nums _ NX0.out NX1.out)) (by decide)))
      rw [decide_eq_true rfl] at HQ
      go_wp2_with fail
      refine HQ.out.mono ?_
      rintro e w30 ⟨rfl, q, hW⟩
      have hmz : Mod [] w29 w30 := by rw [hW]; exact (Mod.refl [] _).drewN q
      replace HM := Hidden.mk (HM.out.trans hmz (by simp))
      replace HLS := Hidden.mk (HLS.out.news hmz)
      replace S1 := Hidden.mk (S1.out.news hmz)
      replace S2 := Hidden.mk (S2.out.news hmz)
      replace Xy0 := Hidden.mk (Xy0.out.news hmz)
      replace Xy1 := Hidden.mk (Xy1.out.news hmz)
      replace Ts := Hidden.mk (Ts.out.news hmz)
      replace Tt := Hidden.mk (Tt.out.news hmz)
      replace J5 := Hidden.mk (J5.out.news hmz)
      replace J7 := Hidden.mk (J7.out.news hmz)
      clear hmz hW HQ R7 R8
      go_wp2_with fail
      go_ret
      exact ⟨rfl, HM.out.below (Nat.le_refl _) (by simp)⟩
end Go.Proofs.Ythcjnijggebcaaa
