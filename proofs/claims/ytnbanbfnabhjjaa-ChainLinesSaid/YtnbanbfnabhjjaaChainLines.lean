/- The walk of ChainLines. -/
import Derived.Test.YtnbanbfnabhjjaaChainE
import Derived.Test.YtnbanbfnabhjjaaChainAll
import Derived.Test.YtnbanbfnabhjjaaRange
import Derived.Deep.DeepCutAuto
import Derived.Deep.RegionHeld3
namespace Go.Proofs.Ytnbanbfnabhjjaa
open Go.RowKit Go.Shelf
attribute [local go_sem] Oper.semAt_some
set_option linter.unusedVariables false
set_option linter.unusedSimpArgs false
theorem kp_own {W W' : World} {row : Option Nat} (hg : W.grownBy W' row) (hr : ∀ r, row = some r → ∃ o : Obj, W.heap[r]? = some o ∧ o.isCells = false) : KpC [] W W' := by
  refine ⟨hg.size, fun k o _ h1 h2 => ?_⟩
  refine (hg.block k (Array.getElem?_eq_some_iff.1 h1).1 (fun e => ?_)).trans h1
  obtain ⟨o', h3, h4⟩ := hr k e.symm
  rw [h1] at h3; injection h3 with h3; subst h3; rw [h4] at h2; cases h2
set_option maxHeartbeats 1000000 in
theorem chain_line_nil (l : List Int) (v : Value) (w : World) (hl : ISl .u64 w v l) (hn : 0 < l.length) :
    Calls Try.prog 44 #[.pointer none, v] w fun e w' => e = .returned (.int .i64 0) ∧ w = w' := by
  obtain ⟨b, off, cap, rfl, k1, k2, k3, hc⟩ := hl.at_ hn
  have hc0 : w.cell? ⟨b, off, none⟩ = some (.int .u64 l[0]) := hc 0 _ (List.getElem?_eq_getElem hn)
  clear hc
  go_enter Try.func44, Try.ntmps44
  go_wp2_with fail
  go_loopw [11] (fun iv wr => wr = w ∧ iv = .int .i64 0) (fun iv _ => 0)
  case atStart => exact ⟨rfl, rfl⟩
  case round =>
    obtain ⟨rfl, rfl⟩ := hrel
    go_wp2_with fail
    refine (chain_last_nil _).mono ?_; rintro e w1 ⟨rfl, rfl⟩
    go_wp2_with fail
    refine (chain_behind_nil _ _ _).mono ?_; rintro e w1 ⟨rfl, rfl⟩
    go_wp2_with fail
    go_ret
    exact ⟨rfl, rfl⟩
/-- What the loop's body knows of the caller's blocks. -/
structure LinesIn (w0 W : World) (lb ab rs : Nat) (v : Value) (ks : List Int) (n : Nat) : Prop where
  hl : Blk W lb 45 #[v]
  ha : Blk W ab 3 #[.int .i64 n]
  hr : Blk W rs 4 #[.bool false]
  hv : ISl .u64 W v ks
theorem LinesIn.kp {w0 W W' : World} {lb ab rs : Nat} {v : Value} {ks : List Int} {n : Nat} (h : LinesIn w0 W lb ab rs v ks n) (hk : KpC [] W W') : LinesIn w0 W' lb ab rs v ks n :=
  ⟨h.hl.kp hk (by simp), h.ha.kp hk (by simp), h.hr.kp hk (by simp), h.hv.kp hk (by simp)⟩
/-- What stands behind the loop, up to the return. -/
structure LinesEnd (w W : World) (lb ab rs : Nat) (v : Value) (ks : List Int) (n D : Nat) : Prop where mk ::
  inn : LinesIn w W lb ab rs v ks n
  below : Below w.heap.size w W
  hD : W.heap[D]? = some (.deferred (some []))
theorem LinesEnd.mod0 {w W W' : World} {lb ab rs : Nat} {v : Value} {ks : List Int} {n D : Nat} (h : LinesEnd w W lb ab rs v ks n D) (hm : Mod [] W W') : LinesEnd w W' lb ab rs v ks n D :=
  ⟨h.inn.kp (KpC.of_mod hm (by simp)), h.below.trans (hm.below h.below.size (by simp)), (hm.block D (Array.getElem?_eq_some_iff.1 h.hD).1 (by simp)).trans h.hD⟩
set_option maxRecDepth 100000 in
set_option maxHeartbeats 16000000 in
theorem chainLines_walk (a0 : Int) (a1 : Option Addr) (len1 cap1 : Nat) (z1 : List Int) (a2 a3 : Int) (w0 : (Lit.int .u8 a0).wf = true) (w : World) (w1 : IntRow .u64 w a1 len1 cap1 z1) (y1 : len1 * 8 ≤ 140737488351232) (w2 : (Lit.int .i64 a2).wf = true) (w3 : (Lit.int .u64 a3).wf = true) :
    Calls Try.prog 8 #[.int .u8 a0, .slice a1 len1 cap1, .int .i64 a2, .int .u64 a3] w fun e w' => e = .returned (.bool true) ∧ Below w.heap.size w w' := by
  have b0 := bounds_u8 w0
  have hle1 := w1.le
  obtain ⟨hl0, hn0⟩ := w1.isl
  have hrb0 : len1 = 0 ∨ ∀ b ∈ rb (.slice a1 len1 cap1), b < w.heap.size := by
    rcases Nat.eq_zero_or_pos len1 with h | h
    · exact .inl h
    · exact .inr (w1.rblt h)
  clear w0 w1 w2 w3
  generalize z1.take len1 = l at *
  have HL := Hidden.mk (And.intro hl0 (And.intro hn0 hrb0))
  clear hl0 hrb0 hn0
  refine calls_of_wp_marks Try.func8 rfl ?_
  simp only [Try.ntmps8, List.size_toArray, List.length_cons, List.length_nil, Nat.reduceAdd, Nat.reduceSub, Array.replicate_succ, Array.replicate_zero, List.push_toArray, List.append_toArray, List.nil_append, List.cons_append]
  go_wp2_with fail
  refine (awake13 _).mono ?_; rintro e wa ⟨rfl, hB⟩
  have hl1 := ((Blk.new w 45 #[.slice a1 len1 cap1]).alloc (.cells #[.bool false] 4)).mod (Mod.of_below hB) (by simp)
  have hr1 := (Blk.new' (w := w.alloc (.cells #[.slice a1 len1 cap1] 45)) (b := w.heap.size + 1) (by simp) 4 #[.bool false]).mod (Mod.of_below hB) (by simp)
  have hB1 : Below w.heap.size w wa := (((Below.refl _ w).alloc (Nat.le_refl _) _).alloc (by simp) _).trans (hB.mono (by simp; omega))
  have hwa : w.heap.size + 2 ≤ wa.heap.size := by have := hB.size; simp at this; omega
  have hla : ISl .u64 wa (.slice a1 len1 cap1) l := by
    obtain ⟨h1, h2, h3⟩ := HL.out
    rcases h3 with h3 | h3
    · obtain rfl : l = [] := List.eq_nil_of_length_eq_zero (by omega)
      obtain ⟨a, c, e, q1, q2, q3, _⟩ := h1
      exact ⟨a, c, e, q1, q2, q3, .inl rfl⟩
    · exact h1.below hB1 h3
  have hwd := words_call 60 (by omega) l _ wa hla
  have c1 : wa.cell? ⟨w.heap.size, 0, none⟩ = some (.slice a1 len1 cap1) := hl1.cell 0
  have HB := Hidden.mk (And.intro hl1 (And.intro hr1 hB1))
  clear hla hB hl1 hr1 hB1
  go_wp2_with fail
  refine hwd.mono ?_; clear hwd; rintro e w2 ⟨v, rfl, hW⟩
  obtain ⟨hlen, hv⟩ := hW.isl
  have hvlt : ∀ b ∈ rb v, wa.heap.size ≤ b ∧ b < w2.heap.size := fun b hb => ⟨hW.ge b hb, Row.lt hW.row hb⟩
  have hl2 := HB.out.1.mod hW.mod (by simp)
  have hr2 := HB.out.2.1.mod hW.mod (by simp)
  have hB2 : Below w.heap.size w w2 := HB.out.2.2.trans (hW.mod.below HB.out.2.2.size (by simp))
  have hw2 : wa.heap.size ≤ w2.heap.size := hW.mod.size
  generalize hks : l.take 60 = ks at *
  have hks60 : ks.length ≤ 60 := by rw [← hks]; simp; omega
  obtain ⟨a, cap, rfl, k1, k2⟩ := hv.slice_
  have c2 : w2.cell? ⟨w.heap.size, 0, none⟩ = some (.slice a1 len1 cap1) := hl2.cell 0
  have f2 := hl2.frozen 0
  have l2 := hl2.lt
  have H2 := Hidden.mk (And.intro hl2 (And.intro hr2 (And.intro hB2 (And.intro hv hvlt))))
  clear hW hlen hv hvlt hl2 hr2 hB2 hks HB HL
  go_wp2_with fail
  obtain ⟨N, hN⟩ : ∃ N : Nat, a0 % 64 = (N : Int) := ⟨(a0 % 64).toNat, by omega⟩
  have hN64 : N < 64 := by omega
  rw [hN]
  clear hN
  obtain ⟨W3, hW3⟩ : ∃ W, w2.setCell ⟨w.heap.size, 0, none⟩ (.slice a ks.length cap) = W := ⟨_, rfl⟩
  have hset : Mod [w.heap.size] w2 W3 := hW3 ▸ (Mod.refl _ w2).set (.inl (by simp)) _
  have hl3 : Blk W3 w.heap.size 45 #[.slice a ks.length cap] := by have := H2.out.1.set 0 (.slice a ks.length cap); rw [hW3] at this; simpa using this
  have hr3 := H2.out.2.1.mod hset (by simp)
  have hv3 := H2.out.2.2.2.1.mod hset (fun b hb hk => by have := (H2.out.2.2.2.2 b hb).1; simp at hk; omega)
  have hB3 : Below w.heap.size w W3 := H2.out.2.2.1.trans (hset.below H2.out.2.2.1.size (by simp))
  have hs3 : w2.heap.size ≤ W3.heap.size := hset.size
  have hvlt3 : ∀ b ∈ rb (.slice a ks.length cap), wa.heap.size ≤ b ∧ b < W3.heap.size := fun b hb => ⟨(H2.out.2.2.2.2 b hb).1, by have := (H2.out.2.2.2.2 b hb).2; omega⟩
  simp only [hW3]
  clear hW3 hset H2 c2 f2 l2
  have H3 := Hidden.mk (And.intro hl3 (And.intro hr3 (And.intro hB3 (And.intro hv3 hvlt3))))
  clear hl3 hr3 hB3 hv3 hvlt3
  refine (cm_new (w0 := W3) N (Below.refl _ _) (by omega)).mono ?_; rintro e w4 ⟨cb, rfl, hS⟩
  have hl4 := H3.out.1.mod (Mod.of_below hS.below) (by simp)
  have c4 : w4.cell? ⟨w.heap.size, 0, none⟩ = some (.slice a ks.length cap) := hl4.cell 0
  have hline := fun W (hW : Mod [] w4 W) => cm_line W3 cb N ks _ W (hS.mod0 hW) H3.out.2.2.2.1 (fun b hb => (H3.out.2.2.2.2 b hb).2) (by omega)
  have HS := Hidden.mk hS
  have hlb : w.heap.size < W3.heap.size := H3.out.1.lt
  clear hS hl4
  rcases (show N ≤ ks.length ∨ ks.length < N by omega) with hmin | hmin
  · have e1 : min N ks.length = N := Nat.min_eq_left hmin
    have e2 : min (N : Int) (ks.length : Int) = N := by omega
    unfold LinePost at hline
    simp only [e1] at hline
    go_upto_region 6 with fail
    go_cut [45] from 34 to 45 (fun r wx => r = .bool false ∧ ∃ L, CM W3 wx cb N true L ∧ pkeys L = ks.take N)
    case first =>
      refine wp_region_noPanic ?_
      go_region_with (go_at_call 44; refine (hline _ (by first | exact (Mod.refl _ w4).drew | exact Mod.refl _ w4)).mono ?_; rintro e w5 ⟨rfl, L, hS5, hL5⟩; have c5 : w5.cell? ⟨w.heap.size, 0, none⟩ = some (.slice a ks.length cap) := (H3.out.1.mod (Mod.of_below hS5.below) (by simp)).cell 0; have HK := Hidden.mk (And.intro hS5 hL5); clear hS5 hL5)
      all_goals
        refine NoPanic.normal ?_
        go_wp2_with fail
        go_meet
        exact ⟨rfl, L, HK.out⟩
    case rest =>
      obtain ⟨rfl, L, hS, hL⟩ := hcut
      have hLn : L.length = N := by have := congrArg List.length hL; simp [pkeys] at this; omega
      have hBc : Below w.heap.size w wc := H3.out.2.2.1.trans (hS.below.mono H3.out.2.2.1.size)
      have hmc := Mod.of_below hS.below
      have hlc := H3.out.1.mod hmc (by simp)
      have hrc := H3.out.2.1.mod hmc (by simp)
      have hvc := H3.out.2.2.2.1.mod hmc (by simp)
      have hsc : W3.heap.size ≤ wc.heap.size := hS.below.size
      obtain ⟨mb, F, hch, _, hmF, _, hF, _⟩ := hS
      have hFlt := hch.lt
      have hcblt := hch.lt _ hch.head
      have HK := Hidden.mk (And.intro hBc (And.intro hlc (And.intro hrc (And.intro hvc (And.intro hch (And.intro hF hL))))))
      clear hBc hmc hlc hrc hvc hch hL hF hmF hFlt
      go_wp2_with fail
      refine (chain_all _ _ ⟨_, rfl⟩).mono ?_; rintro e w6 ⟨rfl, hw6⟩
      have hs6 : w6.heap.size = wc.heap.size + 2 := by rw [← hw6]; simp
      have hm6 : Mod [] wc w6 := by rw [← hw6]; exact ((Mod.refl [] wc).alloc _).alloc _
      have ha6 : Blk w6 wc.heap.size 3 #[.int .i64 0] := by rw [← hw6]; exact (Blk.new wc _ _).alloc _
      have hb6 : w6.cell? ⟨wc.heap.size + 1, 0, none⟩ = some (.pointer (some ⟨cb, 0, none⟩)) := by
        rw [← hw6]; exact (Blk.new' (w := wc.alloc (.cells #[.int .i64 0] 3)) (b := wc.heap.size + 1) (by simp) 69 #[.pointer (some ⟨cb, 0, none⟩)]).cell 0
      clear hw6
      have hLI : LinesIn w w6 w.heap.size wc.heap.size (w.heap.size + 1) (.slice a ks.length cap) ks 0 := ⟨HK.out.2.1.mod hm6 (by simp), ha6, HK.out.2.2.1.mod hm6 (by simp), HK.out.2.2.2.1.mod hm6 (by simp)⟩
      have hB6 : Below w.heap.size w w6 := HK.out.1.trans (hm6.below HK.out.1.size (by simp))
      have hch6 := HK.out.2.2.2.2.1.mod hm6 (by simp)
      have hFC : ∀ k ∈ F, k ∉ [wc.heap.size, w.heap.size + 1] := fun k hk hk' => by
        have h1 := HK.out.2.2.2.2.1.lt _ hk
        have h2 := HK.out.2.2.2.2.2.1 _ hk
        have h3 := H3.out.2.1.lt
        simp at hk'; omega
      have hstops := chain_stops 2 (by omega) w6 cb mb (wc.heap.size + 1) N F [wc.heap.size, w.heap.size + 1] true L hch6 hb6 hFC (by simp; have := H3.out.2.1.lt; omega) (by simp; have := H3.out.2.1.lt; omega)
      have hlbsz : w.heap.size + 1 < wc.heap.size := by have := H3.out.2.1.lt; omega
      have HS6 := Hidden.mk (And.intro hs6 (And.intro hLI (And.intro hB6 hstops)))
      clear hFC hch6 hb6 ha6 hm6 hs6 hLI hB6 hstops
      go_wp2_with fail
      refine (wpIn_wide (n := 3)).1 ?_
      refine wpIn_rangeFunc_ownF (α := Nat × Int) rfl (by omega) (gf := 96) (lb := #[.pointer (some ⟨wc.heap.size + 1, 0, none⟩)]) (by simp [Act.eval, World.size_alloc]) trivial (enters_of Try.func96 (by kernel_rfl) rfl) HS6.out.2.2.2
        (fun h k => KpC.trans h k) (fun W l o o' hl h1 h2 h3 => KpC.put W l o o' h1 h2) (Below.refl _ _) (fun _ => rfl)
        (fun pre W => LinesIn w W w.heap.size wc.heap.size (w.heap.size + 1) (.slice a ks.length cap) ks pre.length ∧ pkeys pre <+: ks ∧ Below w.heap.size w W)
        (fun c pre W => ¬ (pkeys pre <+: ks))
        (fun s A B row hs hg hr => ⟨hs.1.kp (kp_own hg (fun r e => (hr r e).2)), hs.2.1, (ownFrom_below (β := List (Nat × Int)) (n₀ := w.heap.size) (B := w6.heap.size) (Nat.le_refl _) HS6.out.2.2.1.size) s A B row hs.2.2 hg hr⟩)
        (fun c s A B row hs _ _ => hs) ⟨HS6.out.2.1, List.nil_prefix, HS6.out.2.2.1⟩ ?a1 ?assign ?body ?done ?stop
      case assign =>
        intro l x W K hK
        gi_wp2
        exact hK
      case body =>
        rintro l pre x W ⟨hI, hpk, hB⟩ hlen
        have cl : W.cell? ⟨w.heap.size, 0, none⟩ = some (.slice a ks.length cap) := hI.hl.cell 0
        have ca : W.cell? ⟨wc.heap.size, 0, none⟩ = some (.int .i64 pre.length) := hI.ha.cell 0
        have fa := hI.ha.frozen 0
        have la := hI.ha.lt
        have cr : W.cell? ⟨w.heap.size + 1, 0, none⟩ = some (.bool false) := hI.hr.cell 0
        have fr := hI.hr.frozen 0
        have lr := hI.hr.lt
        have hplen : pre.length ≤ ks.length := by have := hpk.length_le; simpa [pkeys] using this
        have hend : ∀ W', W' = W.setCell ⟨w.heap.size + 1, 0, none⟩ (.bool false) → KeepsOthers W W' := fun W' h => h ▸ KeepsOthers.setCell _ _ _
        by_cases hat : pre.length < ks.length
        · obtain ⟨b, off, y, rfl, hg, hy, hc⟩ := hI.hv.get hat
          have hd : decide (ks.length ≤ pre.length) = false := by simpa using hat
          have h60 : (pre.length : Int) ≤ 60 := by omega
          by_cases hxy : x.2 = y
          · have hne : (x.2 != y) = false := by simp [hxy]
            have hpk2 : pkeys (pre ++ [x]) <+: ks := by
              obtain ⟨t, ht⟩ := hpk
              have hpl : (pkeys pre).length = pre.length := by simp [pkeys]
              rw [← ht, List.getElem?_append_right (by omega), hpl, Nat.sub_self] at hy
              cases t with
              | nil => simp at hy
              | cons z t => simp at hy; subst hy; exact ⟨t, by rw [← ht]; simp [pkeys, hxy]⟩
            have HI := Hidden.mk (And.intro hI (And.intro hpk2 hB))
            clear hI hpk hpk2 hB hxy hy hend
            gi_wp2
            refine ⟨KeepsOthers.setCell _ _ _, KpC.of_mod ((Mod.refl [wc.heap.size] W).set (.inl (by simp)) _) (by simp), ⟨HI.out.1.hl.far (by show w.heap.size ≠ wc.heap.size; omega) _, ?_, HI.out.1.hr.far (by show w.heap.size + 1 ≠ wc.heap.size; omega) _, HI.out.1.hv.mod ((Mod.refl [wc.heap.size] W).set (.inl (by simp)) _) (fun q hq hq' => by have := (H3.out.2.2.2.2 q hq).2; simp at hq'; omega)⟩, HI.out.2.1, HI.out.2.2.setCell (p := ⟨wc.heap.size, 0, none⟩) (by show w.heap.size ≤ wc.heap.size; omega) _⟩
            have := HI.out.1.ha.set 0 (.int .i64 ((pre.length : Int) + 1))
            simpa using this
          · have hne : (x.2 != y) = true := by simp [hxy]
            have hno : ¬ (pkeys (pre ++ [x]) <+: ks) := by
              rintro ⟨t, ht⟩
              have hpl : (pkeys pre).length = pre.length := by simp [pkeys]
              rw [← ht] at hy
              simp only [pkeys, List.map_append, List.append_assoc] at hy
              rw [List.getElem?_append_right (by simp)] at hy
              simp at hy
              exact hxy hy
            have HI := Hidden.mk hno
            clear hI hpk hno hB hxy hy hend
            gi_wp2
            exact ⟨KeepsOthers.setCell _ _ _, HI.out⟩
        · have hd : decide (ks.length ≤ pre.length) = true := by simpa using hat
          have hno : ¬ (pkeys (pre ++ [x]) <+: ks) := by
            intro hp; have := hp.length_le; simp [pkeys] at this; omega
          have HI := Hidden.mk hno
          clear hI hpk hno hB hend hplen hat
          gi_wp2
          exact ⟨KeepsOthers.setCell _ _ _, HI.out⟩
      case done =>
        rintro D xs W hD rfl ⟨hI, hpk, hB⟩ hK
        rw [hLn] at hI
        have hF := LinesEnd.mk hI hB hK
        have h60 : (N : Int) ≤ 60 := by omega
        have cl0 : W.cell? ⟨w.heap.size, 0, none⟩ = some (.slice a ks.length cap) := hF.inn.hl.cell 0
        have ca0 : W.cell? ⟨wc.heap.size, 0, none⟩ = some (.int .i64 N) := hF.inn.ha.cell 0
        have cr0 : W.cell? ⟨w.heap.size + 1, 0, none⟩ = some (.bool false) := hF.inn.hr.cell 0
        have fr0 := hF.inn.hr.frozen 0
        have lr0 := hF.inn.hr.lt
        have HF := Hidden.mk hF
        clear hI hpk hB hK hF
        go_wp2_with fail
        refine (chain_behind_nil _ _ _).mono ?_; rintro e w7 ⟨rfl, rfl⟩
        go_wp2_with fail
        refine (chain_key_nil _ _).mono ?_; rintro e w7 ⟨rfl, hm7⟩
        have hF := HF.out.mod0 hm7
        have cl7 : w7.cell? ⟨w.heap.size, 0, none⟩ = some (.slice a ks.length cap) := hF.inn.hl.cell 0
        have ca7 : w7.cell? ⟨wc.heap.size, 0, none⟩ = some (.int .i64 N) := hF.inn.ha.cell 0
        have cr7 : w7.cell? ⟨w.heap.size + 1, 0, none⟩ = some (.bool false) := hF.inn.hr.cell 0
        have fr7 := hF.inn.hr.frozen 0
        have lr7 := hF.inn.hr.lt
        have HF7 := Hidden.mk hF
        clear hm7 hF
        go_wp2_with fail
        refine (chain_clear_nil _).mono ?_; rintro e w8 ⟨rfl, rfl⟩
        go_wp2_with fail
        refine (chain_new_bad _ _ _ (.inl (by omega))).mono ?_; rintro e w8 ⟨rfl, rfl⟩
        go_wp2_with fail
        refine (chain_drop_nil _ _).mono ?_; rintro e w8 ⟨rfl, rfl⟩
        go_wp2_with fail
        refine (chain_next_nil _ _).mono ?_; rintro e w8 ⟨rfl, hm8⟩
        have hF := HF7.out.mod0 hm8
        have cl8 : w8.cell? ⟨w.heap.size, 0, none⟩ = some (.slice a ks.length cap) := hF.inn.hl.cell 0
        have ca8 : w8.cell? ⟨wc.heap.size, 0, none⟩ = some (.int .i64 N) := hF.inn.ha.cell 0
        have cr8 : w8.cell? ⟨w.heap.size + 1, 0, none⟩ = some (.bool false) := hF.inn.hr.cell 0
        have fr8 := hF.inn.hr.frozen 0
        have lr8 := hF.inn.hr.lt
        have HF8 := Hidden.mk hF
        clear hm8 hF
        go_wp2_with fail
        refine (chain_prev_nil _ _).mono ?_; rintro e w9 ⟨rfl, hm9⟩
        have hF := HF8.out.mod0 hm9
        have cl9 : w9.cell? ⟨w.heap.size, 0, none⟩ = some (.slice a ks.length cap) := hF.inn.hl.cell 0
        have ca9 : w9.cell? ⟨wc.heap.size, 0, none⟩ = some (.int .i64 N) := hF.inn.ha.cell 0
        have cr9 : w9.cell? ⟨w.heap.size + 1, 0, none⟩ = some (.bool false) := hF.inn.hr.cell 0
        have fr9 := hF.inn.hr.frozen 0
        have lr9 := hF.inn.hr.lt
        have HF9 := Hidden.mk hF
        clear hm9 hF
        go_wp2_with fail
        refine (chain_first_nil _).mono ?_; rintro e w10 ⟨rfl, rfl⟩
        go_wp2_with fail
        refine (chain_last_nil _).mono ?_; rintro e w10 ⟨rfl, rfl⟩
        go_wp2_with fail
        refine (chain_len_nil _).mono ?_; rintro e w10 ⟨rfl, rfl⟩
        go_wp2_with fail
        refine (chain_room_nil _ _).mono ?_; rintro e w10 ⟨rfl, hm10⟩
        have hF := HF9.out.mod0 hm10
        have cl10 : w10.cell? ⟨w.heap.size, 0, none⟩ = some (.slice a ks.length cap) := hF.inn.hl.cell 0
        have ca10 : w10.cell? ⟨wc.heap.size, 0, none⟩ = some (.int .i64 N) := hF.inn.ha.cell 0
        have cr10 : w10.cell? ⟨w.heap.size + 1, 0, none⟩ = some (.bool false) := hF.inn.hr.cell 0
        have fr10 := hF.inn.hr.frozen 0
        have lr10 := hF.inn.hr.lt
        have HF10 := Hidden.mk hF
        clear hm10 hF
        rcases Nat.eq_zero_or_pos ks.length with hk0 | hk0
        · have hd0 : ((ks.length : Int) == 0) = true := by simp [hk0]
          clear hk0
          go_wp2_with fail
          (try simp only [Exit.inBlock, Exit.then])
          have hK1 := (KeepsOthers.setCell w10 ⟨w.heap.size + 1, 0, none⟩ (.bool true)).same D _ HF10.out.hD rfl
          have hc5 : ((w10.setCell ⟨w.heap.size + 1, 0, none⟩ (.bool true)).putObj D (.deferred none)).cell? ⟨w.heap.size + 1, 0, none⟩ = some (.bool true) := ((by simpa using HF10.out.inn.hr.set 0 (.bool true) : Blk (w10.setCell ⟨w.heap.size + 1, 0, none⟩ (.bool true)) (w.heap.size + 1) 4 #[.bool true]).kp (KpC.put (C := []) _ D _ _ hK1 rfl) (by simp)).cell 0
          have hDw : w.heap.size ≤ D := by have h1 := HS6.out.2.2.1.size; omega
          refine bodyPostM_ret (v := .bool true) (D := D) rfl hK1 ?_ ⟨rfl, ?_⟩
          · simp [results, Try.results8, go_sem, hc5]
          · exact (HF10.out.below.setCell (p := ⟨w.heap.size + 1, 0, none⟩) (by show w.heap.size ≤ w.heap.size + 1; omega) _).trans (belowK_b (w := w) (Nat.le_refl _) _ D _ _ hDw hK1 rfl rfl)
        · have hd0 : ((ks.length : Int) == 0) = false := by simp; rintro rfl; simp at hk0
          have hln := chain_line_nil ks _ w10 HF10.out.inn.hv hk0
          clear hk0
          go_wp2_with fail
          refine hln.mono ?_; clear hln; rintro e w11 ⟨rfl, rfl⟩
          go_wp2_with fail
          (try simp only [Exit.inBlock, Exit.then])
          have hK1 := (KeepsOthers.setCell w10 ⟨w.heap.size + 1, 0, none⟩ (.bool true)).same D _ HF10.out.hD rfl
          have hc5 : ((w10.setCell ⟨w.heap.size + 1, 0, none⟩ (.bool true)).putObj D (.deferred none)).cell? ⟨w.heap.size + 1, 0, none⟩ = some (.bool true) := ((by simpa using HF10.out.inn.hr.set 0 (.bool true) : Blk (w10.setCell ⟨w.heap.size + 1, 0, none⟩ (.bool true)) (w.heap.size + 1) 4 #[.bool true]).kp (KpC.put (C := []) _ D _ _ hK1 rfl) (by simp)).cell 0
          have hDw : w.heap.size ≤ D := by have h1 := HS6.out.2.2.1.size; omega
          refine bodyPostM_ret (v := .bool true) (D := D) rfl hK1 ?_ ⟨rfl, ?_⟩
          · simp [results, Try.results8, go_sem, hc5]
          · exact (HF10.out.below.setCell (p := ⟨w.heap.size + 1, 0, none⟩) (by show w.heap.size ≤ w.heap.size + 1; omega) _).trans (belowK_b (w := w) (Nat.le_refl _) _ D _ _ hDw hK1 rfl rfl)
      case stop =>
        intro D c pre W hD hp hn hK
        refine absurd ?_ hn
        obtain ⟨q, hq⟩ := hp
        refine List.IsPrefix.trans (⟨pkeys q, ?_⟩ : pkeys pre <+: pkeys L) (HK.out.2.2.2.2.2.2 ▸ List.take_prefix _ _)
        rw [← hq]; simp [pkeys]
  · have e1 : min N ks.length = ks.length := Nat.min_eq_right (Nat.le_of_lt hmin)
    have e2 : min (N : Int) (ks.length : Int) = ks.length := by omega
    unfold LinePost at hline
    simp only [e1] at hline
    go_upto_region 6 with fail
    go_cut [45] from 34 to 45 (fun r wx => r = .bool false ∧ ∃ L, CM W3 wx cb N true L ∧ pkeys L = ks.take ks.length)
    case first =>
      refine wp_region_noPanic ?_
      go_region_with (go_at_call 44; refine (hline _ (by first | exact (Mod.refl _ w4).drew | exact Mod.refl _ w4)).mono ?_; rintro e w5 ⟨rfl, L, hS5, hL5⟩; have c5 : w5.cell? ⟨w.heap.size, 0, none⟩ = some (.slice a ks.length cap) := (H3.out.1.mod (Mod.of_below hS5.below) (by simp)).cell 0; have HK := Hidden.mk (And.intro hS5 hL5); clear hS5 hL5)
      all_goals
        refine NoPanic.normal ?_
        go_wp2_with fail
        go_meet
        exact ⟨rfl, L, HK.out⟩
    case rest =>
      obtain ⟨rfl, L, hS, hL⟩ := hcut
      have hLn : L.length = ks.length := by have := congrArg List.length hL; simp [pkeys] at this; omega
      have hBc : Below w.heap.size w wc := H3.out.2.2.1.trans (hS.below.mono H3.out.2.2.1.size)
      have hmc := Mod.of_below hS.below
      have hlc := H3.out.1.mod hmc (by simp)
      have hrc := H3.out.2.1.mod hmc (by simp)
      have hvc := H3.out.2.2.2.1.mod hmc (by simp)
      have hsc : W3.heap.size ≤ wc.heap.size := hS.below.size
      obtain ⟨mb, F, hch, _, hmF, _, hF, _⟩ := hS
      have hFlt := hch.lt
      have hcblt := hch.lt _ hch.head
      have HK := Hidden.mk (And.intro hBc (And.intro hlc (And.intro hrc (And.intro hvc (And.intro hch (And.intro hF hL))))))
      clear hBc hmc hlc hrc hvc hch hL hF hmF hFlt
      go_wp2_with fail
      refine (chain_all _ _ ⟨_, rfl⟩).mono ?_; rintro e w6 ⟨rfl, hw6⟩
      have hs6 : w6.heap.size = wc.heap.size + 2 := by rw [← hw6]; simp
      have hm6 : Mod [] wc w6 := by rw [← hw6]; exact ((Mod.refl [] wc).alloc _).alloc _
      have ha6 : Blk w6 wc.heap.size 3 #[.int .i64 0] := by rw [← hw6]; exact (Blk.new wc _ _).alloc _
      have hb6 : w6.cell? ⟨wc.heap.size + 1, 0, none⟩ = some (.pointer (some ⟨cb, 0, none⟩)) := by
        rw [← hw6]; exact (Blk.new' (w := wc.alloc (.cells #[.int .i64 0] 3)) (b := wc.heap.size + 1) (by simp) 69 #[.pointer (some ⟨cb, 0, none⟩)]).cell 0
      clear hw6
      have hLI : LinesIn w w6 w.heap.size wc.heap.size (w.heap.size + 1) (.slice a ks.length cap) ks 0 := ⟨HK.out.2.1.mod hm6 (by simp), ha6, HK.out.2.2.1.mod hm6 (by simp), HK.out.2.2.2.1.mod hm6 (by simp)⟩
      have hB6 : Below w.heap.size w w6 := HK.out.1.trans (hm6.below HK.out.1.size (by simp))
      have hch6 := HK.out.2.2.2.2.1.mod hm6 (by simp)
      have hFC : ∀ k ∈ F, k ∉ [wc.heap.size, w.heap.size + 1] := fun k hk hk' => by
        have h1 := HK.out.2.2.2.2.1.lt _ hk
        have h2 := HK.out.2.2.2.2.2.1 _ hk
        have h3 := H3.out.2.1.lt
        simp at hk'; omega
      have hstops := chain_stops 2 (by omega) w6 cb mb (wc.heap.size + 1) N F [wc.heap.size, w.heap.size + 1] true L hch6 hb6 hFC (by simp; have := H3.out.2.1.lt; omega) (by simp; have := H3.out.2.1.lt; omega)
      have hlbsz : w.heap.size + 1 < wc.heap.size := by have := H3.out.2.1.lt; omega
      have HS6 := Hidden.mk (And.intro hs6 (And.intro hLI (And.intro hB6 hstops)))
      clear hFC hch6 hb6 ha6 hm6 hs6 hLI hB6 hstops
      go_wp2_with fail
      refine (wpIn_wide (n := 3)).1 ?_
      refine wpIn_rangeFunc_ownF (α := Nat × Int) rfl (by omega) (gf := 96) (lb := #[.pointer (some ⟨wc.heap.size + 1, 0, none⟩)]) (by simp [Act.eval, World.size_alloc]) trivial (enters_of Try.func96 (by kernel_rfl) rfl) HS6.out.2.2.2
        (fun h k => KpC.trans h k) (fun W l o o' hl h1 h2 h3 => KpC.put W l o o' h1 h2) (Below.refl _ _) (fun _ => rfl)
        (fun pre W => LinesIn w W w.heap.size wc.heap.size (w.heap.size + 1) (.slice a ks.length cap) ks pre.length ∧ pkeys pre <+: ks ∧ Below w.heap.size w W)
        (fun c pre W => ¬ (pkeys pre <+: ks))
        (fun s A B row hs hg hr => ⟨hs.1.kp (kp_own hg (fun r e => (hr r e).2)), hs.2.1, (ownFrom_below (β := List (Nat × Int)) (n₀ := w.heap.size) (B := w6.heap.size) (Nat.le_refl _) HS6.out.2.2.1.size) s A B row hs.2.2 hg hr⟩)
        (fun c s A B row hs _ _ => hs) ⟨HS6.out.2.1, List.nil_prefix, HS6.out.2.2.1⟩ ?a1b ?assignb ?bodyb ?doneb ?stopb
      case assignb =>
        intro l x W K hK
        gi_wp2
        exact hK
      case bodyb =>
        rintro l pre x W ⟨hI, hpk, hB⟩ hlen
        have cl : W.cell? ⟨w.heap.size, 0, none⟩ = some (.slice a ks.length cap) := hI.hl.cell 0
        have ca : W.cell? ⟨wc.heap.size, 0, none⟩ = some (.int .i64 pre.length) := hI.ha.cell 0
        have fa := hI.ha.frozen 0
        have la := hI.ha.lt
        have cr : W.cell? ⟨w.heap.size + 1, 0, none⟩ = some (.bool false) := hI.hr.cell 0
        have fr := hI.hr.frozen 0
        have lr := hI.hr.lt
        have hplen : pre.length ≤ ks.length := by have := hpk.length_le; simpa [pkeys] using this
        have hend : ∀ W', W' = W.setCell ⟨w.heap.size + 1, 0, none⟩ (.bool false) → KeepsOthers W W' := fun W' h => h ▸ KeepsOthers.setCell _ _ _
        by_cases hat : pre.length < ks.length
        · obtain ⟨b, off, y, rfl, hg, hy, hc⟩ := hI.hv.get hat
          have hd : decide (ks.length ≤ pre.length) = false := by simpa using hat
          have h60 : (pre.length : Int) ≤ 60 := by omega
          by_cases hxy : x.2 = y
          · have hne : (x.2 != y) = false := by simp [hxy]
            have hpk2 : pkeys (pre ++ [x]) <+: ks := by
              obtain ⟨t, ht⟩ := hpk
              have hpl : (pkeys pre).length = pre.length := by simp [pkeys]
              rw [← ht, List.getElem?_append_right (by omega), hpl, Nat.sub_self] at hy
              cases t with
              | nil => simp at hy
              | cons z t => simp at hy; subst hy; exact ⟨t, by rw [← ht]; simp [pkeys, hxy]⟩
            have HI := Hidden.mk (And.intro hI (And.intro hpk2 hB))
            clear hI hpk hpk2 hB hxy hy hend
            gi_wp2
            refine ⟨KeepsOthers.setCell _ _ _, KpC.of_mod ((Mod.refl [wc.heap.size] W).set (.inl (by simp)) _) (by simp), ⟨HI.out.1.hl.far (by show w.heap.size ≠ wc.heap.size; omega) _, ?_, HI.out.1.hr.far (by show w.heap.size + 1 ≠ wc.heap.size; omega) _, HI.out.1.hv.mod ((Mod.refl [wc.heap.size] W).set (.inl (by simp)) _) (fun q hq hq' => by have := (H3.out.2.2.2.2 q hq).2; simp at hq'; omega)⟩, HI.out.2.1, HI.out.2.2.setCell (p := ⟨wc.heap.size, 0, none⟩) (by show w.heap.size ≤ wc.heap.size; omega) _⟩
            have := HI.out.1.ha.set 0 (.int .i64 ((pre.length : Int) + 1))
            simpa using this
          · have hne : (x.2 != y) = true := by simp [hxy]
            have hno : ¬ (pkeys (pre ++ [x]) <+: ks) := by
              rintro ⟨t, ht⟩
              have hpl : (pkeys pre).length = pre.length := by simp [pkeys]
              rw [← ht] at hy
              simp only [pkeys, List.map_append, List.append_assoc] at hy
              rw [List.getElem?_append_right (by simp)] at hy
              simp at hy
              exact hxy hy
            have HI := Hidden.mk hno
            clear hI hpk hno hB hxy hy hend
            gi_wp2
            exact ⟨KeepsOthers.setCell _ _ _, HI.out⟩
        · have hd : decide (ks.length ≤ pre.length) = true := by simpa using hat
          have hno : ¬ (pkeys (pre ++ [x]) <+: ks) := by
            intro hp; have := hp.length_le; simp [pkeys] at this; omega
          have HI := Hidden.mk hno
          clear hI hpk hno hB hend hplen hat
          gi_wp2
          exact ⟨KeepsOthers.setCell _ _ _, HI.out⟩
      case doneb =>
        rintro D xs W hD rfl ⟨hI, hpk, hB⟩ hK
        rw [hLn] at hI
        have hF := LinesEnd.mk hI hB hK
        have h60 : (ks.length : Int) ≤ 60 := by omega
        have cl0 : W.cell? ⟨w.heap.size, 0, none⟩ = some (.slice a ks.length cap) := hF.inn.hl.cell 0
        have ca0 : W.cell? ⟨wc.heap.size, 0, none⟩ = some (.int .i64 ks.length) := hF.inn.ha.cell 0
        have cr0 : W.cell? ⟨w.heap.size + 1, 0, none⟩ = some (.bool false) := hF.inn.hr.cell 0
        have fr0 := hF.inn.hr.frozen 0
        have lr0 := hF.inn.hr.lt
        have HF := Hidden.mk hF
        clear hI hpk hB hK hF
        go_wp2_with fail
        refine (chain_behind_nil _ _ _).mono ?_; rintro e w7 ⟨rfl, rfl⟩
        go_wp2_with fail
        refine (chain_key_nil _ _).mono ?_; rintro e w7 ⟨rfl, hm7⟩
        have hF := HF.out.mod0 hm7
        have cl7 : w7.cell? ⟨w.heap.size, 0, none⟩ = some (.slice a ks.length cap) := hF.inn.hl.cell 0
        have ca7 : w7.cell? ⟨wc.heap.size, 0, none⟩ = some (.int .i64 ks.length) := hF.inn.ha.cell 0
        have cr7 : w7.cell? ⟨w.heap.size + 1, 0, none⟩ = some (.bool false) := hF.inn.hr.cell 0
        have fr7 := hF.inn.hr.frozen 0
        have lr7 := hF.inn.hr.lt
        have HF7 := Hidden.mk hF
        clear hm7 hF
        go_wp2_with fail
        refine (chain_clear_nil _).mono ?_; rintro e w8 ⟨rfl, rfl⟩
        go_wp2_with fail
        refine (chain_new_bad _ _ _ (.inl (by omega))).mono ?_; rintro e w8 ⟨rfl, rfl⟩
        go_wp2_with fail
        refine (chain_drop_nil _ _).mono ?_; rintro e w8 ⟨rfl, rfl⟩
        go_wp2_with fail
        refine (chain_next_nil _ _).mono ?_; rintro e w8 ⟨rfl, hm8⟩
        have hF := HF7.out.mod0 hm8
        have cl8 : w8.cell? ⟨w.heap.size, 0, none⟩ = some (.slice a ks.length cap) := hF.inn.hl.cell 0
        have ca8 : w8.cell? ⟨wc.heap.size, 0, none⟩ = some (.int .i64 ks.length) := hF.inn.ha.cell 0
        have cr8 : w8.cell? ⟨w.heap.size + 1, 0, none⟩ = some (.bool false) := hF.inn.hr.cell 0
        have fr8 := hF.inn.hr.frozen 0
        have lr8 := hF.inn.hr.lt
        have HF8 := Hidden.mk hF
        clear hm8 hF
        go_wp2_with fail
        refine (chain_prev_nil _ _).mono ?_; rintro e w9 ⟨rfl, hm9⟩
        have hF := HF8.out.mod0 hm9
        have cl9 : w9.cell? ⟨w.heap.size, 0, none⟩ = some (.slice a ks.length cap) := hF.inn.hl.cell 0
        have ca9 : w9.cell? ⟨wc.heap.size, 0, none⟩ = some (.int .i64 ks.length) := hF.inn.ha.cell 0
        have cr9 : w9.cell? ⟨w.heap.size + 1, 0, none⟩ = some (.bool false) := hF.inn.hr.cell 0
        have fr9 := hF.inn.hr.frozen 0
        have lr9 := hF.inn.hr.lt
        have HF9 := Hidden.mk hF
        clear hm9 hF
        go_wp2_with fail
        refine (chain_first_nil _).mono ?_; rintro e w10 ⟨rfl, rfl⟩
        go_wp2_with fail
        refine (chain_last_nil _).mono ?_; rintro e w10 ⟨rfl, rfl⟩
        go_wp2_with fail
        refine (chain_len_nil _).mono ?_; rintro e w10 ⟨rfl, rfl⟩
        go_wp2_with fail
        refine (chain_room_nil _ _).mono ?_; rintro e w10 ⟨rfl, hm10⟩
        have hF := HF9.out.mod0 hm10
        have cl10 : w10.cell? ⟨w.heap.size, 0, none⟩ = some (.slice a ks.length cap) := hF.inn.hl.cell 0
        have ca10 : w10.cell? ⟨wc.heap.size, 0, none⟩ = some (.int .i64 ks.length) := hF.inn.ha.cell 0
        have cr10 : w10.cell? ⟨w.heap.size + 1, 0, none⟩ = some (.bool false) := hF.inn.hr.cell 0
        have fr10 := hF.inn.hr.frozen 0
        have lr10 := hF.inn.hr.lt
        have HF10 := Hidden.mk hF
        clear hm10 hF
        rcases Nat.eq_zero_or_pos ks.length with hk0 | hk0
        · have hd0 : ((ks.length : Int) == 0) = true := by simp [hk0]
          clear hk0
          go_wp2_with fail
          (try simp only [Exit.inBlock, Exit.then])
          have hK1 := (KeepsOthers.setCell w10 ⟨w.heap.size + 1, 0, none⟩ (.bool true)).same D _ HF10.out.hD rfl
          have hc5 : ((w10.setCell ⟨w.heap.size + 1, 0, none⟩ (.bool true)).putObj D (.deferred none)).cell? ⟨w.heap.size + 1, 0, none⟩ = some (.bool true) := ((by simpa using HF10.out.inn.hr.set 0 (.bool true) : Blk (w10.setCell ⟨w.heap.size + 1, 0, none⟩ (.bool true)) (w.heap.size + 1) 4 #[.bool true]).kp (KpC.put (C := []) _ D _ _ hK1 rfl) (by simp)).cell 0
          have hDw : w.heap.size ≤ D := by have h1 := HS6.out.2.2.1.size; omega
          refine bodyPostM_ret (v := .bool true) (D := D) rfl hK1 ?_ ⟨rfl, ?_⟩
          · simp [results, Try.results8, go_sem, hc5]
          · exact (HF10.out.below.setCell (p := ⟨w.heap.size + 1, 0, none⟩) (by show w.heap.size ≤ w.heap.size + 1; omega) _).trans (belowK_b (w := w) (Nat.le_refl _) _ D _ _ hDw hK1 rfl rfl)
        · have hd0 : ((ks.length : Int) == 0) = false := by simp; rintro rfl; simp at hk0
          have hln := chain_line_nil ks _ w10 HF10.out.inn.hv hk0
          clear hk0
          go_wp2_with fail
          refine hln.mono ?_; clear hln; rintro e w11 ⟨rfl, rfl⟩
          go_wp2_with fail
          (try simp only [Exit.inBlock, Exit.then])
          have hK1 := (KeepsOthers.setCell w10 ⟨w.heap.size + 1, 0, none⟩ (.bool true)).same D _ HF10.out.hD rfl
          have hc5 : ((w10.setCell ⟨w.heap.size + 1, 0, none⟩ (.bool true)).putObj D (.deferred none)).cell? ⟨w.heap.size + 1, 0, none⟩ = some (.bool true) := ((by simpa using HF10.out.inn.hr.set 0 (.bool true) : Blk (w10.setCell ⟨w.heap.size + 1, 0, none⟩ (.bool true)) (w.heap.size + 1) 4 #[.bool true]).kp (KpC.put (C := []) _ D _ _ hK1 rfl) (by simp)).cell 0
          have hDw : w.heap.size ≤ D := by have h1 := HS6.out.2.2.1.size; omega
          refine bodyPostM_ret (v := .bool true) (D := D) rfl hK1 ?_ ⟨rfl, ?_⟩
          · simp [results, Try.results8, go_sem, hc5]
          · exact (HF10.out.below.setCell (p := ⟨w.heap.size + 1, 0, none⟩) (by show w.heap.size ≤ w.heap.size + 1; omega) _).trans (belowK_b (w := w) (Nat.le_refl _) _ D _ _ hDw hK1 rfl rfl)
      case stopb =>
        intro D c pre W hD hp hn hK
        refine absurd ?_ hn
        obtain ⟨q, hq⟩ := hp
        refine List.IsPrefix.trans (⟨pkeys q, ?_⟩ : pkeys pre <+: pkeys L) (HK.out.2.2.2.2.2.2 ▸ List.take_prefix _ _)
        rw [← hq]; simp [pkeys]
end Go.Proofs.Ytnbanbfnabhjjaa
