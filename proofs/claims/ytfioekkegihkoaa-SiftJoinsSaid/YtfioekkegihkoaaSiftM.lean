/- sift.And's sequence. -/
import Derived.Test.YtfioekkegihkoaaSiftL
import Derived.Test.YtfioekkegihkoaaPickG
namespace Go.Proofs.Ytfioekkegihkoaa
open Go.RowKit Go.Shelf
set_option linter.unusedVariables false
set_option linter.unusedSimpArgs false
/-- What the first list has and all others have. -/
def andF (l0 : List Int) (ls : List (List Int)) : List Int := l0.filter (fun x => ls.all (fun m => decide (x ∈ m)))
theorem LSeq.tail {w : World} {b off n cap : Nat} {l : List Int} {ls : List (List Int)} {R : List Nat} (h : LSeq w (.slice (some ⟨b, off, none⟩) n cap) (l :: ls) R) :
    LSeq w (.slice (if cap = 1 then some ⟨b, off, none⟩ else some ⟨b, off + 1, none⟩) (n - 1) (cap - 1)) ls R := by
  obtain ⟨a', cap', he, h1, h2, h3, h4⟩ := h
  injection he with e1 e2 e3
  subst e1 e2 e3
  simp only [List.length_cons] at h1
  rcases h4 with h4 | ⟨b', off', e, hb, hbR, hc⟩
  · cases h4
  obtain ⟨rfl, rfl⟩ : b = b' ∧ off = off' := by simpa using e
  refine ⟨if cap = 1 then some ⟨b, off, none⟩ else some ⟨b, off + 1, none⟩, cap - 1, rfl, by omega, by omega, fun hn => ?_, ?_⟩
  · split at hn <;> cases hn
  rcases ls with _ | ⟨l1, ls⟩
  · exact .inl rfl
  · simp only [List.length_cons] at h1
    refine .inr ⟨b, off + 1, by rw [if_neg (by omega)], hb, hbR, fun i l hl => ?_⟩
    obtain ⟨u, Ri, h5, h6, h7⟩ := hc (i + 1) l (by simpa using hl)
    exact ⟨u, Ri, by rw [show off + 1 + i = off + (i + 1) from by omega]; exact h5, h6, h7⟩
theorem Rests.snoc {W : World} {us : List Value} {rw : List Nat} {ms : List (List Int)} {l m : List Int} {J : Nat → Nat} {u : Value} {rw' : List Nat} (h : Rests W us rw ms l J) (hlen : us.length = ms.length) (hu : ISl .u64 W u m) (h1 : ∀ b ∈ rw, b ∈ rw') (h2 : ∀ b ∈ rbl u m, b ∈ rw') : Rests W (us ++ [u]) rw' (ms ++ [m]) l J := by
  intro p m' hp
  rcases Nat.lt_or_ge p ms.length with h3 | h3
  · rw [List.getElem?_append_left h3] at hp
    obtain ⟨v, r, k1, k2, k3, k4⟩ := h p m' hp
    exact ⟨v, r, by rw [List.getElem?_append_left (by omega)]; exact k1, k2, fun b hb => h1 b (k3 b hb), k4⟩
  · rw [List.getElem?_append_right h3] at hp
    have h4 : p - ms.length = 0 := by
      rcases Nat.eq_zero_or_pos (p - ms.length) with h5 | h5
      · exact h5
      · rw [List.getElem?_eq_none (by simp only [List.length_cons, List.length_nil]; omega)] at hp; cases hp
    rw [h4] at hp
    obtain rfl : m = m' := by simpa using hp
    exact ⟨u, 0, by rw [List.getElem?_append_right (by omega), show p - us.length = 0 from by omega]; rfl, by simpa using hu, by simpa using h2, fun i y _ _ => Nat.zero_le _⟩
/-- The rows of the other lists, as they are gathered in the box Bo. -/
structure Gath (W0 W : World) (Bo : Nat) (vO : Value) (rw : List Nat) (ms : List (List Int)) (l : List Int) (us : List Value) : Prop where
  bo : W0.heap.size ≤ Bo
  box : Blk W Bo 40 #[vO]
  row : Row W 23 1 vO ms.length us
  mod : Mod [] W0 W
  rest : Rests W us rw ms l (fun _ => 0)
  ge : ∀ b ∈ rb vO, W0.heap.size ≤ b ∧ b ≠ Bo ∧ b ∉ rw ∧ b < W.heap.size
  rge : ∀ b ∈ rw, W0.heap.size ≤ b ∧ b ≠ Bo ∧ b < W.heap.size
theorem Gath.news {W0 W W' : World} {Bo : Nat} {vO : Value} {rw : List Nat} {ms : List (List Int)} {l : List Int} {us : List Value} (h : Gath W0 W Bo vO rw ms l us) (hm : Mod [] W W') : Gath W0 W' Bo vO rw ms l us :=
  ⟨h.bo, h.box.mod hm (by simp), h.row.mod hm (by simp), h.mod.trans hm (by simp), h.rest.mod hm (by simp), fun b hb => by have h1 := h.ge b hb; have := hm.size; exact ⟨h1.1, h1.2.1, h1.2.2.1, by omega⟩, fun b hb => by have h1 := h.rge b hb; have := hm.size; exact ⟨h1.1, h1.2.1, by omega⟩⟩
/-- One more: the keys v1 of m, then the row grown, then the box written. -/
theorem Gath.next {W0 W w1 w3 : World} {Bo : Nat} {vO v1 v3 : Value} {rw : List Nat} {ms : List (List Int)} {l m : List Int} {us : List Value} (h : Gath W0 W Bo vO rw ms l us) (hm1 : Mod [] W w1) (hv1 : ISl .u64 w1 v1 m) (hg1 : ∀ b ∈ rb v1, W.heap.size ≤ b)
    (o : Obj) (hr3 : Row w3 23 1 v3 (ms.length + 1) (us ++ [v1])) (hm3 : Mod (rb vO) (w1.alloc o) w3) (hf3 : ∀ b ∈ rb v3, b ∈ rb vO ∨ (w1.alloc o).heap.size ≤ b) :
    Gath W0 (w3.setCell ⟨Bo, 0, none⟩ v3) Bo v3 (rw ++ rbl v1 m) (ms ++ [m]) l (us ++ [v1]) := by
  have hml : Mod [] W (w1.alloc o) := hm1.alloc o
  have hs1 := hml.size
  have hsz1 : (w1.alloc o).heap.size = w1.heap.size + 1 := by simp
  have hW0 := h.mod.size
  have hBl : Bo < W.heap.size := h.box.lt
  have hrl : ∀ b ∈ rbl v1 m, W.heap.size ≤ b ∧ b < w1.heap.size := fun b hb => ⟨by
    unfold rbl at hb
    split at hb
    · simp at hb
    · exact hg1 b hb, rbl_lt hv1 b hb⟩
  have hbo : Bo ∉ rb vO := fun hb => (h.ge _ hb).2.1 rfl
  have hbox3 : Blk w3 Bo 40 #[vO] := (h.box.mod hml (by simp)).mod hm3 hbo
  have hst : Mod [Bo] w3 (w3.setCell ⟨Bo, 0, none⟩ v3) := (Mod.refl _ w3).set (.inl (by simp)) _
  have hlen : us.length = ms.length := by have := h.row.1; omega
  have h3lt : ∀ b ∈ rb v3, b < w3.heap.size := fun b hb => hr3.lt hb
  have h3ne : ∀ b ∈ rb v3, b ≠ Bo := fun b hb e => by
    subst e
    rcases hf3 _ hb with h1 | h1
    · exact hbo h1
    · omega
  have hr1 : Rests w3 us rw ms l (fun _ => 0) := (h.rest.mod hml (by simp)).mod hm3 (fun q hq => (h.ge q hq).2.2.1)
  have hv3 : ISl .u64 w3 v1 m := ((hv1.news ((Mod.refl [] w1).alloc o)).modl hm3 (fun b hb hq => by have := (h.ge b hq).2.2.2; have := (hrl b hb).1; omega))
  have hr2 : Rests w3 (us ++ [v1]) (rw ++ rbl v1 m) (ms ++ [m]) l (fun _ => 0) := hr1.snoc hlen hv3 (fun b hb => by simp [hb]) (fun b hb => by simp [hb])
  have hs3 := hm3.size
  refine ⟨h.bo, by simpa using hbox3.set 0 v3, ?_, ?_, hr2.mod hst (fun q hq => ?_), fun b hb => ?_, fun b hb => ?_⟩
  · rw [List.length_append]; exact hr3.far (p := ⟨Bo, 0, none⟩) (fun hb => h3ne _ hb rfl) v3
  · exact ((h.mod.trans hml (by simp)).trans hm3 (fun q hq => .inr (h.ge q hq).1)).trans hst (fun q hq => by simp at hq; subst hq; exact .inr h.bo)
  · simp at hq; subst hq
    intro hb
    rcases List.mem_append.1 hb with h1 | h1
    · exact (h.rge _ h1).2.1 rfl
    · have := (hrl _ h1).1; omega
  · simp only [World.size_setCell]
    refine ⟨?_, h3ne b hb, fun hq => ?_, h3lt b hb⟩
    · rcases hf3 b hb with h1 | h1
      · exact (h.ge b h1).1
      · omega
    · rcases List.mem_append.1 hq with h2 | h2
      · rcases hf3 b hb with h1 | h1
        · exact (h.ge b h1).2.2.1 h2
        · have := (h.rge b h2).2.2; omega
      · rcases hf3 b hb with h1 | h1
        · have := (hrl b h2).1; have := (h.ge b h1).2.2.2; omega
        · have := (hrl b h2).2; omega
  · simp only [World.size_setCell]
    rcases List.mem_append.1 hb with h1 | h1
    · have h2 := h.rge b h1; exact ⟨h2.1, h2.2.1, by omega⟩
    · have h2 := hrl b h1; exact ⟨by omega, by omega, by omega⟩
set_option maxRecDepth 100000 in
set_option maxHeartbeats 4000000 in
theorem and_it {w : World} {v : Value} {l0 : List Int} {ls : List (List Int)} {R : List Nat} {Pl : Nat} (h : LSeq w v (l0 :: ls) R) (cl : w.cell? ⟨Pl, 0, none⟩ = some v) (hm : ∀ l ∈ l0 :: ls, l.length ≤ 1000000) (hr : ∀ l ∈ l0 :: ls, l.Pairwise (· < ·)) (hn : ls.length ≤ 999) :
    ItC Try.prog 69 #[.pointer (some ⟨Pl, 0, none⟩)] encK (fun xs _ => xs = andF l0 ls) (fun pre _ => pre <+: andF l0 ls) (andF l0 ls).length (Pl :: R) [] w := by
  intro ly J Jx C T W hW hT hC hJ hJx hY h0
  have hPl : Pl < w.heap.size := by simpa using World.block_lt_of_cell? w _ cl
  have cl1 : W.cell? ⟨Pl, 0, none⟩ = some v := (World.cell?_of_block (hW.block Pl hPl (fun h => hT _ h (by simp)))).trans cl
  have hPW : Pl < W.heap.size := by have := hW.size; omega
  have h1 := h.mod hW (fun q hq hR => hT q hq (by simp [hR]))
  have h1' := h1
  obtain ⟨b, off, u0, l, R0, cap, rfl, hl0, hu0, hs0⟩ : ∃ b off u0 l R0 cap, v = .slice (some ⟨b, off, none⟩) (ls.length + 1) cap ∧ (l0 :: ls)[0]? = some l ∧ W.cell? ⟨b, off, none⟩ = some u0 ∧ SeqL W u0 l R0 := by
    obtain ⟨a, cap, rfl, -⟩ := id h1
    obtain ⟨b, off, u, l, Ri, rfl, hl, hu, hs⟩ := h1.get (i := 0) (by simp)
    exact ⟨b, off, u, l, Ri, cap, by simp, hl, by simpa using hu, hs⟩
  obtain rfl : l0 = l := by simpa using hl0
  have hTL := h1.tail
  have hcp : 1 ≤ cap ∧ ls.length + 1 ≤ cap := by
    obtain ⟨a', c', he, k1, -⟩ := h1
    injection he with e1 e2 e3
    subst e3
    simp only [List.length_cons] at k1
    omega
  obtain ⟨n, hn'⟩ : ∃ n, ls.length = n := ⟨_, rfl⟩
  rw [hn'] at hTL cl1 hn hcp
  rw [Nat.add_sub_cancel] at hTL
  have HN := Hidden.mk hn'
  have HS := Hidden.mk (And.intro h0 (And.intro hJ (And.intro hJx (And.intro hY hC))))
  have HM := Hidden.mk (And.intro hm (And.intro hr hs0))
  clear h hW hT hPl cl hm hr h0 hJ hC hY hJx hn' h1 h1' hl0 hs0
  have z1 : (1 : Int) ≤ (n : Int) + 1 := by omega
  have z2 : (1 : Int) ≤ (cap : Int) := by omega
  have hbW : b < W.heap.size := by simpa using World.block_lt_of_cell? W _ hu0
  have HU := Hidden.mk (And.intro hu0 hbW)
  clear hu0
  have HG0 : Hidden (Gath W (W.alloc (.cells #[.slice none 0 0] 40)) W.heap.size (.slice none 0 0) [] [] l0 []) :=
    ⟨⟨Nat.le_refl _, Blk.new _ _ _, Row.nil_ _ _ _, (Mod.refl [] W).alloc _, fun p m hp => by simp at hp, fun b hb => by simp [rb, Value.ownBlock] at hb, fun b hb => by simp at hb⟩⟩
  by_cases hc1 : cap = 1
  · subst hc1
    rw [if_pos rfl] at hTL
    obtain rfl : n = 0 := by omega
    have HT := Hidden.mk hTL
    clear hTL
    go_enter Try.func69, Try.ntmps69
    go_wp2_with fail
    go_loopw [5, 10] (fun _ iv wr => ∃ (i : Nat) (vO : Value) (us : List Value) (rw : List Nat), i ≤ 0 ∧ iv = .int .i64 i ∧ Gath W wr W.heap.size vO rw (ls.take i) l0 us) (fun _ iv _ => 0 - (intOf iv).toNat)
    case atStart => exact ⟨0, _, [], [], Nat.zero_le _, rfl, HG0.out⟩
    case round =>
      obtain ⟨i, vO, us, rw, hi, rfl, hG⟩ := hrel
      obtain rfl : i = 0 := by omega
      have hd : decide ((0 : Int) < (0 : Int)) = false := decide_eq_false (by omega)
      rw [show ls.take 0 = ls from List.take_of_length_le (by rw [HN.out]; exact Nat.le_refl _)] at hG
      have c7 : wr.cell? ⟨Pl, 0, none⟩ = some (.slice (some ⟨b, off, none⟩) 1 1) := (World.cell?_of_block (hG.mod.block Pl hPW (by simp))).trans cl1
      have c8 : wr.cell? ⟨b, off, none⟩ = some u0 := (World.cell?_of_block (hG.mod.block b HU.out.2 (by simp))).trans HU.out.1
      have HG := Hidden.mk hG
      have HV := Hidden.mk ((HM.out.2.2.news hG.mod).val)
      clear hG cl1
      go_wp2_with fail
      refine (told_make HV.out _ _).mono ?_
      rintro e w3 ⟨rfl, hw3⟩
      have HW3 := Hidden.mk hw3
      clear hw3 c7 c8
      go_wp2_with fail
      have HW := HW3.out
      have hm3 : Mod [] wr w3 := by rw [← HW]; exact ((Mod.refl [] wr).alloc _).alloc _
      have hs3 : w3.heap.size = wr.heap.size + 2 := by rw [← HW]; simp
      have c1 : w3.cell? ⟨wr.heap.size, 0, none⟩ = some u0 := by rw [← HW]; exact ((Blk.new wr 43 #[u0]).alloc _).cell 0
      have c2 : w3.cell? ⟨wr.heap.size + 1, 0, none⟩ = some (.func (.func 71) #[] #[.pointer (some ⟨W.heap.size, 0, none⟩)]) := by rw [← HW]; exact (Blk.new' (w := wr.alloc (.cells #[u0] 43)) (by simp) 32 #[.func (.func 71) #[] #[.pointer (some ⟨W.heap.size, 0, none⟩)]]).cell 0
      have hG3 := HG.out.news hm3
      have hm03 := hG3.mod
      have hBw := HG.out.box.lt
      have hlt : ∀ q ∈ W.heap.size :: (rb vO ++ rw), W.heap.size ≤ q ∧ q < wr.heap.size := fun q hq => by
        rcases List.mem_cons.1 hq with rfl | hq
        · exact ⟨Nat.le_refl _, hBw⟩
        · rcases List.mem_append.1 hq with hq | hq
          · have h9 := HG.out.ge q hq; exact ⟨h9.1, h9.2.2.2⟩
          · have h9 := HG.out.rge q hq; exact ⟨h9.1, h9.2.2⟩
      refine (told_call (B0 := W.heap.size) (C := C) (D := W.heap.size :: (rb vO ++ rw)) (f := fun x => ls.all (fun m => decide (x ∈ m))) (Inv := AndInv W.heap.size vO rw ls l0) (J := J) (Jx := Jx)
        (HM.out.2.2.news hm03) (HM.out.1 l0 (by simp)) c1 c2 (enters_of Try.func71 (by kernel_rfl) rfl) ?_ ?_ ?_ ?_ (by omega) ?_ HS.out.2.1 HS.out.2.2.1 HS.out.2.2.2.1 ?_).mono ?_
      · refine ⟨us, hG3.box, hG3.row, fun p m hp => ?_⟩
        obtain ⟨u, r, k1, k2, k3, k4⟩ := hG3.rest p m hp
        exact ⟨u, r, k1, k2, k3, fun i y _ hy => k4 i y (Nat.zero_le _) hy⟩
      · rintro j A B S ⟨us', k1, k2, k3⟩ hm hS
        exact ⟨us', k1.mod hm (fun h => hS _ h (by simp)), k2.mod hm (fun k hk hq => hS _ hq (by simp [hk])), k3.mod hm (fun q hq h => hS q hq (by simp [h]))⟩
      · intro j x A hx hI
        refine (and_is (fun m hm => HM.out.2.1 m (by simp [hm])) (fun m hm => HM.out.1 m (by simp [hm])) (by rw [HN.out]; omega) (HM.out.2.1 l0 (by simp)) hx hI (fun h => (HG.out.rge _ h).2.1 rfl) (fun h => (HG.out.ge _ h).2.1 rfl) (fun b hb h => (HG.out.ge b h).2.2.1 hb)).mono ?_
        rintro e A' ⟨he, h2, h3⟩
        exact ⟨he, h2, h3.mono (fun q hq => .inl (by simp [hq]))⟩
      · intro q hq
        refine ⟨(hlt q hq).1, by have := (hlt q hq).2; omega, fun h => ?_, by have := (hlt q hq).2; omega⟩
        have := (HS.out.2.2.2.2 q h).1
        have := (hlt q hq).1
        omega
      · intro q hq
        have := (HS.out.2.2.2.2 q hq).1
        exact ⟨by omega, by omega⟩
      · exact HS.out.2.1 _ _ _ _ [] HS.out.1 hm03 (by simp)
      · rintro e w4 ⟨⟨v, rfl⟩, C', hC', hor⟩
        have HF := Hidden.mk (And.intro hC' hor)
        clear hC' hor
        go_wp2_with fail
        go_end0
        refine ⟨⟨_, rfl⟩, C', HF.out.1, HF.out.2.imp (fun h => ⟨_, rfl, h⟩) (fun h => h)⟩
  · rw [if_neg hc1] at hTL
    have HT := Hidden.mk hTL
    clear hTL
    go_enter Try.func69, Try.ntmps69
    go_wp2_with fail
    go_loopw [5, 10] (fun _ iv wr => ∃ (i : Nat) (vO : Value) (us : List Value) (rw : List Nat), i ≤ n ∧ iv = .int .i64 i ∧ Gath W wr W.heap.size vO rw (ls.take i) l0 us) (fun _ iv _ => n - (intOf iv).toNat)
    case atStart => exact ⟨0, _, [], [], Nat.zero_le _, rfl, HG0.out⟩
    case round =>
      obtain ⟨i, vO, us, rw, hi, rfl, hG⟩ := hrel
      by_cases hin : i < n
      · have hd : decide ((i : Int) < (n : Int)) = true := decide_eq_true (by omega)
        have hw1 : IntKind.i64.wrap ((i : Int) + 1) = i + 1 := IntWalk.i64_in _ (by omega)
        obtain ⟨b', off', u, l, Ri, he', hl, hu, hs⟩ := (HT.out.news hG.mod).get (i := i) (by rw [HN.out]; exact hin)
        obtain ⟨rfl, rfl⟩ : b = b' ∧ off + 1 = off' := by simpa using he'
        have hmem : l ∈ l0 :: ls := by simp [List.mem_of_getElem? hl]
        have HK := Hidden.mk (sift_keys (hs.news (Mod.refl [] wr).drew) (HM.out.1 l hmem))
        have htk : Hidden (ls.take (i + 1) = ls.take i ++ [l]) := ⟨by rw [List.take_add_one, hl]; rfl⟩
        have hti : (ls.take i).length = i := by rw [List.length_take, HN.out]; omega
        obtain ⟨aO, kO, hvO, -⟩ := hG.row.slice_
        rw [hti] at hvO
        subst hvO
        have cB : wr.cell? ⟨W.heap.size, 0, none⟩ = some (.slice aO i kO) := hG.box.cell 0
        have HTI := Hidden.mk hti
        have HG := Hidden.mk hG
        clear hG hs hl hmem he' hti
        go_wp2_with fail
        obtain ⟨wd, hwd⟩ : ∃ wd, wr.drew = wd := ⟨_, rfl⟩
        have cBd : wd.cell? ⟨W.heap.size, 0, none⟩ = some (.slice aO i kO) := by rw [← hwd]; exact cB
        rw [hwd] at HK
        have hmd : Mod [] wr wd := by rw [← hwd]; exact (Mod.refl [] wr).drew
        have HD := Hidden.mk hmd
        refine wp_region_pickG (C := fun W2 => W2.cell? ⟨W.heap.size, 0, none⟩ = some (.slice aO i kO)) (fun i => decide (i < 4)) [(1, 2), (0, 1), (2, 0), (3, 0), (4, 0), (5, 0)] (by kernel_rfl) (by kernel_rfl) ?_
        rw [hwd]
        clear hwd cB hmd
        refine pg_move _ rfl (.inl rfl) (by kernel_rfl) ?_
        go_simp
        refine pg_look (.slice aO i kO) cBd rfl (by kernel_rfl) (fun W2 hW2 => by simp [go_sem, hW2]) ?_
        go_simp
        refine pg_call (f := 68) (args := #[u]) rfl (by kernel_rfl) (by first | kernel_rfl | simp [go_sem]) ?_
        refine HK.out.mono ?_
        rintro e w1 ⟨v1, rfl, hv1, hm1, hg1⟩
        have cB1 : w1.cell? ⟨W.heap.size, 0, none⟩ = some (.slice aO i kO) := (HG.out.box.mod (HD.out.trans hm1 (by simp)) (by simp)).cell 0
        have hR1 : Hidden (∀ o, Row (w1.alloc o) 23 1 (.slice aO i kO) i us) := ⟨fun o => by have h9 := HG.out.row.mod ((HD.out.trans hm1 (by simp)).alloc o) (by simp); rw [HTI.out] at h9; exact h9⟩
        obtain ⟨pv, kv, hpv, -⟩ := hv1.slice_
        subst hpv
        have H1 := Hidden.mk (And.intro hv1 (And.intro (HD.out.trans hm1 (by simp)) (fun b hb => Nat.le_trans HD.out.size (hg1 b hb) : ∀ b ∈ rb (.slice pv l.length kv), wr.heap.size ≤ b)))
        clear hv1 hm1 hg1
        refine ⟨_, rfl, fun _ _ => cB1, ?_⟩
        go_simp
        have cB2 : (w1.alloc (.cells #[.slice pv l.length kv] 23)).cell? ⟨W.heap.size, 0, none⟩ = some (.slice aO i kO) := (HG.out.box.mod (H1.out.2.1.alloc (.cells #[.slice pv l.length kv] 23)) (by simp)).cell 0
        refine pg_val (v := .slice (some ⟨w1.heap.size, 0, none⟩) 1 1) (w' := w1.alloc (.cells #[.slice pv l.length kv] 23)) rfl (by kernel_rfl) (by simp [go_sem]) (fun _ _ => cB2) ?_
        go_simp
        refine pg_app rfl (by kernel_rfl) (.tmp 14) (.tmp 17) 40 rfl 23 (.slice none 0 0) 1 24 (by kernel_rfl) infoS64 rfl (by decide) _ _ _ rfl (hR1.out _) _ _ _ rfl (holds_one _ (.slice pv l.length kv) 23 rfl) (by simp [Value.oneCell']) (by omega) (by omega) ?_
        intro b4 c4 w3 hr3 hm3 hf3
        have hb3 := (HG.out.box.mod (H1.out.2.1.alloc (.cells #[.slice pv l.length kv] 23)) (by simp)).mod hm3 (fun hb => (HG.out.ge _ hb).2.1 rfl)
        have c3 : w3.cell? ⟨W.heap.size, 0, none⟩ = some (.slice aO i kO) := hb3.cell 0
        have f3 := hb3.frozen 0
        have l3 := hb3.lt
        have H3 := Hidden.mk (And.intro hr3 (And.intro hm3 hf3))
        clear hr3 hm3 hf3 hb3
        refine ⟨fun h => by simp at h, ?_⟩
        go_simp
        refine pg_skip (w' := w3.setCell ⟨W.heap.size, 0, none⟩ (.slice b4 (i + 1) c4)) rfl (by kernel_rfl) (by simp [go_sem, c3, f3]) (fun h => by simp at h) ?_
        go_simp
        refine pg_nil ?_
        clear c3 f3 l3 cB1 cB2 cBd hu
        go_wp2_with fail
        go_roundw
        case rel => exact ⟨i + 1, _, _, _, by omega, by go_num, by rw [htk.out]; exact HG.out.next H1.out.2.1 H1.out.1 H1.out.2.2 _ (by rw [HTI.out]; exact H3.out.1) H3.out.2.1 H3.out.2.2⟩
        case measure => simp [intOf]; omega
      · obtain rfl : i = n := by omega
        have hd : decide ((i : Int) < (i : Int)) = false := decide_eq_false (by omega)
        rw [show ls.take i = ls from List.take_of_length_le (by rw [HN.out]; exact Nat.le_refl _)] at hG
        have c7 : wr.cell? ⟨Pl, 0, none⟩ = some (.slice (some ⟨b, off, none⟩) (i + 1) cap) := (World.cell?_of_block (hG.mod.block Pl hPW (by simp))).trans cl1
        have c8 : wr.cell? ⟨b, off, none⟩ = some u0 := (World.cell?_of_block (hG.mod.block b HU.out.2 (by simp))).trans HU.out.1
        have HG := Hidden.mk hG
        have HV := Hidden.mk ((HM.out.2.2.news hG.mod).val)
        clear hG cl1
        go_wp2_with fail
        refine (told_make HV.out _ _).mono ?_
        rintro e w3 ⟨rfl, hw3⟩
        have HW3 := Hidden.mk hw3
        clear hw3 c7 c8
        go_wp2_with fail
        have HW := HW3.out
        have hm3 : Mod [] wr w3 := by rw [← HW]; exact ((Mod.refl [] wr).alloc _).alloc _
        have hs3 : w3.heap.size = wr.heap.size + 2 := by rw [← HW]; simp
        have c1 : w3.cell? ⟨wr.heap.size, 0, none⟩ = some u0 := by rw [← HW]; exact ((Blk.new wr 43 #[u0]).alloc _).cell 0
        have c2 : w3.cell? ⟨wr.heap.size + 1, 0, none⟩ = some (.func (.func 71) #[] #[.pointer (some ⟨W.heap.size, 0, none⟩)]) := by rw [← HW]; exact (Blk.new' (w := wr.alloc (.cells #[u0] 43)) (by simp) 32 #[.func (.func 71) #[] #[.pointer (some ⟨W.heap.size, 0, none⟩)]]).cell 0
        have hG3 := HG.out.news hm3
        have hm03 := hG3.mod
        have hBw := HG.out.box.lt
        have hlt : ∀ q ∈ W.heap.size :: (rb vO ++ rw), W.heap.size ≤ q ∧ q < wr.heap.size := fun q hq => by
          rcases List.mem_cons.1 hq with rfl | hq
          · exact ⟨Nat.le_refl _, hBw⟩
          · rcases List.mem_append.1 hq with hq | hq
            · have h9 := HG.out.ge q hq; exact ⟨h9.1, h9.2.2.2⟩
            · have h9 := HG.out.rge q hq; exact ⟨h9.1, h9.2.2⟩
        refine (told_call (B0 := W.heap.size) (C := C) (D := W.heap.size :: (rb vO ++ rw)) (f := fun x => ls.all (fun m => decide (x ∈ m))) (Inv := AndInv W.heap.size vO rw ls l0) (J := J) (Jx := Jx)
          (HM.out.2.2.news hm03) (HM.out.1 l0 (by simp)) c1 c2 (enters_of Try.func71 (by kernel_rfl) rfl) ?_ ?_ ?_ ?_ (by omega) ?_ HS.out.2.1 HS.out.2.2.1 HS.out.2.2.2.1 ?_).mono ?_
        · refine ⟨us, hG3.box, hG3.row, fun p m hp => ?_⟩
          obtain ⟨u, r, k1, k2, k3, k4⟩ := hG3.rest p m hp
          exact ⟨u, r, k1, k2, k3, fun i y _ hy => k4 i y (Nat.zero_le _) hy⟩
        · rintro j A B S ⟨us', k1, k2, k3⟩ hm hS
          exact ⟨us', k1.mod hm (fun h => hS _ h (by simp)), k2.mod hm (fun k hk hq => hS _ hq (by simp [hk])), k3.mod hm (fun q hq h => hS q hq (by simp [h]))⟩
        · intro j x A hx hI
          refine (and_is (fun m hm => HM.out.2.1 m (by simp [hm])) (fun m hm => HM.out.1 m (by simp [hm])) (by rw [HN.out]; omega) (HM.out.2.1 l0 (by simp)) hx hI (fun h => (HG.out.rge _ h).2.1 rfl) (fun h => (HG.out.ge _ h).2.1 rfl) (fun b hb h => (HG.out.ge b h).2.2.1 hb)).mono ?_
          rintro e A' ⟨he, h2, h3⟩
          exact ⟨he, h2, h3.mono (fun q hq => .inl (by simp [hq]))⟩
        · intro q hq
          refine ⟨(hlt q hq).1, by have := (hlt q hq).2; omega, fun h => ?_, by have := (hlt q hq).2; omega⟩
          have := (HS.out.2.2.2.2 q h).1
          have := (hlt q hq).1
          omega
        · intro q hq
          have := (HS.out.2.2.2.2 q hq).1
          exact ⟨by omega, by omega⟩
        · exact HS.out.2.1 _ _ _ _ [] HS.out.1 hm03 (by simp)
        · rintro e w4 ⟨⟨v, rfl⟩, C', hC', hor⟩
          have HF := Hidden.mk (And.intro hC' hor)
          clear hC' hor
          go_wp2_with fail
          go_end0
          refine ⟨⟨_, rfl⟩, C', HF.out.1, HF.out.2.imp (fun h => ⟨_, rfl, h⟩) (fun h => h)⟩
end Go.Proofs.Ytfioekkegihkoaa
