/- law04.same: what the pool's iterator tells is what the document's pool holds. -/
import Derived.Test.YtnbanbfnabhjjaaRef04
import Derived.Test.YtnbanbfnabhjjaaTold
import Derived.Test.YtnbanbfnabhjjaaRound
import Derived.Deep.DeepCutAuto
import Derived.Deep.RegionHeld3

namespace Go.Proofs.Ytnbanbfnabhjjaa
open Go.RowKit Go.Shelf
attribute [local go_sem] Oper.semAt_some
set_option linter.unusedVariables false
set_option linter.unusedSimpArgs false
theorem keeps_drewN (W : World) (n : Nat) : KeepsOthers W (W.drewN n) := ⟨Nat.le_refl _, fun _ _ h _ => h⟩
theorem kp_own4 {W W' : World} {row : Option Nat} (hg : W.grownBy W' row) (hr : ∀ r, row = some r → ∃ o : Obj, W.heap[r]? = some o ∧ o.isCells = false) : KpC [] W W' := by
  refine ⟨hg.size, fun k o _ h1 h2 => ?_⟩
  refine (hg.block k (Array.getElem?_eq_some_iff.1 h1).1 (fun e => ?_)).trans h1
  obtain ⟨o', h3, h4⟩ := hr k e.symm
  rw [h1] at h3; injection h3 with h3; subst h3; rw [h4] at h2; cases h2
section
variable {W W' : World} {q xb : Nat} {Fx : List Nat} {V : List Int} {s : PS Int} {reads most n a : Int}
theorem RefAt.kp {C : List Nat} (h : RefAt W xb Fx V s reads) (hk : KpC C W W') (hF : ∀ k ∈ Fx, k ∉ C) : RefAt W' xb Fx V s reads := by
  obtain ⟨vv, lv, fv, rfl, h⟩ := h
  exact ⟨vv, lv, fv, rfl, h.blk.kp hk (hF _ (by simp)), h.vals.kp hk (fun k hk => hF k (by simp [hk])), h.live.kp hk (fun k hk => hF k (by simp [hk])), h.free.kp hk (fun k hk => hF k (by simp [hk])), h.wf, h.vlen, h.vget⟩
/-- same's own boxes, and the document's pool. -/
structure SameIn (W : World) (q xb : Nat) (Fx : List Nat) (V : List Int) (s : PS Int) (reads most n a : Int) : Prop where
  hx : Blk W q 44 #[.pointer (some ⟨xb, 0, none⟩)]
  hm : Blk W (q + 1) 3 #[.int .i64 most]
  hr : Blk W (q + 2) 4 #[.bool false]
  hn : Blk W (q + 3) 3 #[.int .i64 n]
  ha : Blk W (q + 4) 3 #[.int .i64 a]
  href : RefAt W xb Fx V s reads
  hF : ∀ k ∈ Fx, k < q
theorem SameIn.kp (h : SameIn W q xb Fx V s reads most n a) (hk : KpC [] W W') : SameIn W' q xb Fx V s reads most n a :=
  ⟨h.hx.kp hk (by simp), h.hm.kp hk (by simp), h.hr.kp hk (by simp), h.hn.kp hk (by simp), h.ha.kp hk (by simp), h.href.kp hk (by simp), h.hF⟩
theorem SameIn.setN (h : SameIn W q xb Fx V s reads most n a) (n' : Int) : SameIn (W.setCell ⟨q + 3, 0, none⟩ (.int .i64 n')) q xb Fx V s reads most n' a :=
  ⟨h.hx.far (by show q ≠ q + 3; omega) _, h.hm.far (by show q + 1 ≠ q + 3; omega) _, h.hr.far (by show q + 2 ≠ q + 3; omega) _, by simpa using h.hn.set 0 (.int .i64 n'), h.ha.far (by show q + 4 ≠ q + 3; omega) _, h.href.mod ((Mod.refl [q + 3] W).set (.inl (by simp)) _) (fun k hk hk' => by have := h.hF k hk'; simp at hk; omega), h.hF⟩
theorem SameIn.setA (h : SameIn W q xb Fx V s reads most n a) (a' : Int) : SameIn (W.setCell ⟨q + 4, 0, none⟩ (.int .i64 a')) q xb Fx V s reads most n a' :=
  ⟨h.hx.far (by show q ≠ q + 4; omega) _, h.hm.far (by show q + 1 ≠ q + 4; omega) _, h.hr.far (by show q + 2 ≠ q + 4; omega) _, h.hn.far (by show q + 3 ≠ q + 4; omega) _, by simpa using h.ha.set 0 (.int .i64 a'), h.href.mod ((Mod.refl [q + 4] W).set (.inl (by simp)) _) (fun k hk hk' => by have := h.hF k hk'; simp at hk; omega), h.hF⟩
end
set_option maxRecDepth 100000 in
set_option maxHeartbeats 8000000 in
theorem same_any {w : World} {pb mb xb : Nat} {F Fx : List Nat} {V : List Int} {s : PS Int} {reads most : Int} (h : PoolAt TU w pb mb F s) (hx : RefAt w xb Fx V s reads) (hmost : 1 ≤ most) (hmost2 : most ≤ 1000) :
    Calls Try.prog 35 #[.pointer (some ⟨pb, 0, none⟩), .pointer (some ⟨xb, 0, none⟩), .int .i64 most] w fun e w' => e = .returned (.bool true) ∧ Below w.heap.size w w' := by
  have HP := Hidden.mk (And.intro h hx)
  clear h hx
  refine calls_of_wp_marks Try.func35 rfl ?_
  simp only [Try.ntmps35, List.size_toArray, List.length_cons, List.length_nil, Nat.reduceAdd, Nat.reduceSub, Array.replicate_succ, Array.replicate_zero, List.push_toArray, List.append_toArray, List.nil_append, List.cons_append]
  go_wp2_with fail
  refine (poolU_all _ _ ⟨_, rfl⟩).mono ?_; rintro e w6 ⟨rfl, hw6⟩
  have hm6 : Mod [] w w6 := by rw [← hw6]; exact ((((((Mod.refl [] w).alloc _).alloc _).alloc _).alloc _).alloc _).alloc _
  have hS : SameIn w6 w.heap.size xb Fx V s reads most 0 0 := by
    refine ⟨?_, ?_, ?_, ?_, ?_, HP.out.2.mod hm6 (by simp), HP.out.2.lt⟩
    · rw [← hw6]; exact (((((Blk.new w _ _).alloc _).alloc _).alloc _).alloc _).alloc _
    · rw [← hw6]; exact ((((Blk.new' (by simp) _ _).alloc _).alloc _).alloc _).alloc _
    · rw [← hw6]; exact (((Blk.new' (by simp) _ _).alloc _).alloc _).alloc _
    · rw [← hw6]; exact ((Blk.new' (by simp) _ _).alloc _).alloc _
    · rw [← hw6]; exact (Blk.new' (by simp) _ _).alloc _
  have hB6 : Below w.heap.size w w6 := hm6.below (Nat.le_refl _) (by simp)
  have hp6 : PoolAt TU w6 pb mb F s := HP.out.1.mod hm6 (by simp)
  have hb6 : w6.cell? ⟨w.heap.size + 5, 0, none⟩ = some (.pointer (some ⟨pb, 0, none⟩)) := by
    rw [← hw6]; exact (Blk.new' (b := w.heap.size + 5) (by simp) 24 #[.pointer (some ⟨pb, 0, none⟩)]).cell 0
  have hs6 : w6.heap.size = w.heap.size + 6 := by rw [← hw6]; simp
  clear hw6
  have hstops := pool_stops 2 (by omega) w6 pb mb (w.heap.size + 5) F [w.heap.size + 2, w.heap.size + 3, w.heap.size + 4] s hp6 hb6 (fun k hk hk' => by have := HP.out.1.lt k hk; simp at hk'; omega) (by simp) (by simp; omega)
  have HS6 := Hidden.mk (And.intro hs6 (And.intro hS (And.intro hB6 hstops)))
  clear hp6 hb6 hs6 hS hB6 hstops
  go_wp2_with fail
  refine (wpIn_wide (n := 3)).1 ?_
  refine wpIn_rangeFunc_ownF (α := Nat × Int) rfl (by omega) (gf := 79) (lb := #[.pointer (some ⟨w.heap.size + 5, 0, none⟩)]) (by simp [Act.eval, World.size_alloc]) trivial (enters_of Try.func79 (by kernel_rfl) rfl) HS6.out.2.2.2
    (fun h k => KpC.trans h k) (fun W l o o' hl h1 h2 h3 => KpC.put W l o o' h1 h2) (Below.refl _ _) (fun _ => rfl)
    (fun pre W => SameIn W w.heap.size xb Fx V s reads most pre.length (nxP 0 pre) ∧ pre <+: toldP s.cells 0 ∧ (pre.length : Int) < most ∧ Below w.heap.size w W)
    (fun c pre W => (c = .exit 0 ∧ SameIn W w.heap.size xb Fx V s reads most pre.length (nxP 0 pre) ∧ pre <+: toldP s.cells 0 ∧ (pre.length : Int) = most ∧ Below w.heap.size w W) ∨ ¬ (pre <+: toldP s.cells 0))
    (fun s A B row hs hg hr => ⟨hs.1.kp (kp_own4 hg (fun r e => (hr r e).2)), hs.2.1, hs.2.2.1, (ownFrom_below (β := List (Nat × Int)) (n₀ := w.heap.size) (B := w6.heap.size) (Nat.le_refl _) HS6.out.2.2.1.size) s A B row hs.2.2.2 hg hr⟩)
    (fun c s A B row hs hg hr => hs.imp (fun h => ⟨h.1, h.2.1.kp (kp_own4 hg (fun r e => (hr r e).2)), h.2.2.1, h.2.2.2.1, (ownFrom_below (β := List (Nat × Int)) (n₀ := w.heap.size) (B := w6.heap.size) (Nat.le_refl _) HS6.out.2.2.1.size) s A B row h.2.2.2.2 hg hr⟩) id) ⟨HS6.out.2.1, List.nil_prefix, by show ((0 : Nat) : Int) < most; omega, HS6.out.2.2.1⟩ ?a1 ?assign ?body ?done ?stop
  case assign =>
    intro l x W K hK
    gi_wp2
    exact hK
  case body =>
    rintro l pre ⟨p, v'⟩ W ⟨hI, hpk, hlm, hB⟩ hlen
    obtain ⟨i, v, hk0, hki, hsi, hbe, hxi⟩ := told_next s.cells 0 pre hpk (by rw [toldP_len]; exact hlen)
    have cx := hI.hx.cell 0
    have cm := hI.hm.cell 0
    have cr := hI.hr.cell 0
    have cn := hI.hn.cell 0
    have ca := hI.ha.cell 0
    have hlim : s.cells.length ≤ 1048576 := by obtain ⟨_, _, _, _, hR⟩ := hI.href; have := hR.wf.lim; have := hR.wf.len; omega
    have hpl1 : (pre.length : Int) ≤ 999 := by omega
    have hil : i < s.cells.length := by have := (List.getElem?_eq_some_iff.1 hsi).1; omega
    have HI := Hidden.mk (And.intro hI (And.intro hpk (And.intro hlm hB)))
    clear hI hpk hlm hB cx cm cr cn ca
    gi_wp2
    gi_loopw [] (fun wr => ∃ j : Nat, nxP 0 pre ≤ j ∧ j ≤ i ∧ SameIn wr w.heap.size xb Fx V s reads most pre.length j ∧ KeepsOthers W wr ∧ KpC [w.heap.size + 2, w.heap.size + 3, w.heap.size + 4] W wr ∧ Below w.heap.size w wr) (fun wr => match wr.cell? ⟨w.heap.size + 4, 0, none⟩ with | some p => i - (intOf p).toNat | none => 0)
    case atStart => exact ⟨nxP 0 pre, Nat.le_refl _, hki, HI.out.1, KeepsOthers.refl _, KpC.refl _ _, HI.out.2.2.2⟩
    case round =>
      obtain ⟨j, hj1, hj2, hI, hK1, hK2, hB⟩ := hrel
      obtain ⟨vv, lv, fv, hFe, hR⟩ := hI.href
      have cx : wr.cell? ⟨w.heap.size, 0, none⟩ = some (.pointer (some ⟨xb, 0, none⟩)) := hI.hx.cell 0
      have ca : wr.cell? ⟨w.heap.size + 4, 0, none⟩ = some (.int .i64 j) := hI.ha.cell 0
      have fa := hI.ha.frozen 0
      have la := hI.ha.lt
      have c0 : wr.cell? ⟨xb, 0, none⟩ = some vv := hR.blk.cell 0
      have c1 := hR.c1
      obtain ⟨g, cap', rfl, q1, q2, q3, hb⟩ := hR.live_at (i := j) (by omega)
      have hjl : decide ((j : Int) < (s.cells.length : Int)) = true := by simp; omega
      have HJ := Hidden.mk (And.intro hI (And.intro hK1 (And.intro hK2 (And.intro hB (And.intro hFe hR)))))
      clear hI hK1 hK2 hB hFe hR
      have hjl2 : j < s.cells.length := by omega
      by_cases hji : j < i
      · have hgj : (s.get (j : Int)).isSome = false := by rw [PS.get_nat]; have := hbe j hj1 hji; simp at this; simp [this]
        rw [hgj] at hb
        have HR2 : Hidden (∀ nq : Nat, (∃ j_1 : Nat, nxP 0 pre ≤ j_1 ∧ j_1 ≤ i ∧ SameIn ((wr.setCell ⟨w.heap.size + 1 + 1 + 1 + 1, 0, none⟩ (.int .i64 ((j : Int) + 1))).drewN nq) w.heap.size xb Fx V s reads most pre.length j_1 ∧ KeepsOthers W ((wr.setCell ⟨w.heap.size + 1 + 1 + 1 + 1, 0, none⟩ (.int .i64 ((j : Int) + 1))).drewN nq) ∧ KpC [w.heap.size + 2, w.heap.size + 3, w.heap.size + 4] W ((wr.setCell ⟨w.heap.size + 1 + 1 + 1 + 1, 0, none⟩ (.int .i64 ((j : Int) + 1))).drewN nq) ∧ Below w.heap.size w ((wr.setCell ⟨w.heap.size + 1 + 1 + 1 + 1, 0, none⟩ (.int .i64 ((j : Int) + 1))).drewN nq)) ∧ ((match ((wr.setCell ⟨w.heap.size + 1 + 1 + 1 + 1, 0, none⟩ (.int .i64 ((j : Int) + 1))).drewN nq).cell? ⟨w.heap.size + 4, 0, none⟩ with | some p => i - (intOf p).toNat | none => 0) < (match wr.cell? ⟨w.heap.size + 4, 0, none⟩ with | some p => i - (intOf p).toNat | none => 0))) := by
          refine ⟨fun nq => ?_⟩
          have hm : Mod [w.heap.size + 4] wr ((wr.setCell ⟨w.heap.size + 1 + 1 + 1 + 1, 0, none⟩ (.int .i64 ((j : Int) + 1))).drewN nq) := ((Mod.refl [w.heap.size + 4] wr).set (.inl (by simp)) _).drewN nq
          have hA := (HJ.out.1.setA ((j : Int) + 1)).kp (KpC.of_mod (C := []) ((Mod.refl [] _).drewN nq) (by simp))
          have hrel2 : ∃ j_1 : Nat, nxP 0 pre ≤ j_1 ∧ j_1 ≤ i ∧ SameIn ((wr.setCell ⟨w.heap.size + 1 + 1 + 1 + 1, 0, none⟩ (.int .i64 ((j : Int) + 1))).drewN nq) w.heap.size xb Fx V s reads most pre.length j_1 ∧ KeepsOthers W ((wr.setCell ⟨w.heap.size + 1 + 1 + 1 + 1, 0, none⟩ (.int .i64 ((j : Int) + 1))).drewN nq) ∧ KpC [w.heap.size + 2, w.heap.size + 3, w.heap.size + 4] W ((wr.setCell ⟨w.heap.size + 1 + 1 + 1 + 1, 0, none⟩ (.int .i64 ((j : Int) + 1))).drewN nq) ∧ Below w.heap.size w ((wr.setCell ⟨w.heap.size + 1 + 1 + 1 + 1, 0, none⟩ (.int .i64 ((j : Int) + 1))).drewN nq) :=
            ⟨j + 1, by omega, by omega, hA, HJ.out.2.1.trans ((KeepsOthers.setCell _ _ _).trans (keeps_drewN _ nq)), HJ.out.2.2.1.trans (KpC.of_mod hm (by simp)), HJ.out.2.2.2.1.trans (hm.below HJ.out.2.2.2.1.size (by simp))⟩
          have hme2 : (match ((wr.setCell ⟨w.heap.size + 1 + 1 + 1 + 1, 0, none⟩ (.int .i64 ((j : Int) + 1))).drewN nq).cell? ⟨w.heap.size + 4, 0, none⟩ with | some p => i - (intOf p).toNat | none => 0) < (match wr.cell? ⟨w.heap.size + 4, 0, none⟩ with | some p => i - (intOf p).toNat | none => 0) := by
            have h1 := hA.ha.cell 0
            simp only [List.getElem?_toArray, List.getElem?_cons_zero] at h1
            rw [ca]
            rw [show ((wr.setCell ⟨w.heap.size + 1 + 1 + 1 + 1, 0, none⟩ (.int .i64 ((j : Int) + 1))).drewN nq).cell? ⟨w.heap.size + 4, 0, none⟩ = some (.int .i64 ((j : Int) + 1)) from h1]
            simp [intOf]; omega
          exact ⟨hrel2, hme2⟩
        clear hgj
        gi_wp2
        refine wpIn_round_quiet (by kernel_rfl) (by kernel_rfl) (by kernel_rfl) ?_
        repeat (go_big_quiet_step (fail))
        refine wpQuiet_nil ?_
        intro _ hw'; obtain ⟨nq, hw''⟩ := hw'; subst hw''
        gi_wp2
        go_roundw
        all_goals first
          | exact (HR2.out _).1
          | exact (HR2.out _).2
      · obtain rfl : j = i := by omega
        have hgj : (s.get (j : Int)).isSome = true := by rw [PS.get_nat]; simp at hsi; simp [hsi]
        rw [hgj] at hb
        have hvj : V[j]? = some v := HJ.out.2.2.2.2.2.vget j v (by simpa using hsi)
        have hVl := HJ.out.2.2.2.2.2.vlen
        obtain ⟨g2, cap2, rfl, r1, r2, r3, r4, r5, r6⟩ := HJ.out.2.2.2.2.2.vals.at_ (by omega)
        have hvc : wr.cell? ⟨g2, j, none⟩ = some (.int .u64 v) := by rw [r5 j (by omega)]; simp [icells, hvj]
        have hlj : decide ((s.cells.length : Int) ≤ (j : Int)) = false := by simp; omega
        have hlj2 : decide (s.cells.length ≤ j) = false := by simp; omega
        have cn : wr.cell? ⟨w.heap.size + 3, 0, none⟩ = some (.int .i64 pre.length) := HJ.out.1.hn.cell 0
        have fn := HJ.out.1.hn.frozen 0
        have ln := HJ.out.1.hn.lt
        have cr : wr.cell? ⟨w.heap.size + 2, 0, none⟩ = some (.bool false) := HJ.out.1.hr.cell 0
        have fr := HJ.out.1.hr.frozen 0
        have lr := HJ.out.1.hr.lt
        have cm : wr.cell? ⟨w.heap.size + 1, 0, none⟩ = some (.int .i64 most) := HJ.out.1.hm.cell 0
        have HX := Hidden.mk (And.intro hsi (And.intro hbe hxi))
        clear hgj r4 r5 r6 hvj hsi hbe hxi hki hj2 hji hjl hk0
        rw [hVl] at *
        clear hVl
        rcases (show p ≠ j ∨ (p = j ∧ v' ≠ v) ∨ (p = j ∧ v' = v) by omega) with hp | ⟨hp, hv⟩ | ⟨hp, hv⟩
        · have hne : ((p : Int) != (j : Int)) = true := by simp; omega
          have hne2 : (p != j) = true := by simp [hp]
          gi_wp2
          refine wpIn_round_quiet (by kernel_rfl) (by kernel_rfl) (by kernel_rfl) ?_
          repeat (go_big_quiet_step (fail))
          refine wpQuiet_nil ?_
          intro _ hw'; obtain ⟨nq, hw''⟩ := hw'; subst hw''
          gi_wp2
          refine wpIn_round_quiet (by kernel_rfl) (by kernel_rfl) (by kernel_rfl) ?_
          repeat (go_big_quiet_step (fail))
          refine wpQuiet_nil ?_
          intro _ hw'; obtain ⟨nq, hw''⟩ := hw'; subst hw''
          gi_wp2
          exact ⟨HJ.out.2.1.trans ((keeps_drewN _ _).trans (KeepsOthers.setCell _ _ _)), .inr fun hpp => by have := (HX.out.2.2 _).1 hpp; injection this with e1 e2; first | exact hp e1 | exact hv e2⟩
        · have hne : ((p : Int) != (j : Int)) = false := by simp [hp]
          have hne2 : (p != j) = false := by simp [hp]
          have hnv : (v' != v) = true := by simp [hv]
          gi_wp2
          refine wpIn_round_quiet (by kernel_rfl) (by kernel_rfl) (by kernel_rfl) ?_
          repeat (go_big_quiet_step (fail))
          refine wpQuiet_nil ?_
          intro _ hw'; obtain ⟨nq, hw''⟩ := hw'; subst hw''
          gi_wp2
          refine wpIn_round_quiet (by kernel_rfl) (by kernel_rfl) (by kernel_rfl) ?_
          repeat (go_big_quiet_step (fail))
          refine wpQuiet_nil ?_
          intro _ hw'; obtain ⟨nq, hw''⟩ := hw'; subst hw''
          gi_wp2
          exact ⟨HJ.out.2.1.trans ((keeps_drewN _ _).trans (KeepsOthers.setCell _ _ _)), .inr fun hpp => by have := (HX.out.2.2 _).1 hpp; injection this with e1 e2; first | exact hp e1 | exact hv e2⟩
        · subst hp hv
          have hlen1 : (pre ++ [(p, v')]).length = pre.length + 1 := by simp
          have hnx1 : nxP 0 (pre ++ [(p, v')]) = p + 1 := nxP_app _ _ _
          have HZ : Hidden (∀ nq : Nat, KeepsOthers W (((wr.drewN nq).setCell ⟨w.heap.size + 1 + 1 + 1, 0, none⟩ (.int .i64 ((pre.length : Int) + 1))).setCell ⟨w.heap.size + 1 + 1 + 1 + 1, 0, none⟩ (.int .i64 ((p : Int) + 1))) ∧
              KpC [w.heap.size + 2, w.heap.size + 3, w.heap.size + 4] W (((wr.drewN nq).setCell ⟨w.heap.size + 1 + 1 + 1, 0, none⟩ (.int .i64 ((pre.length : Int) + 1))).setCell ⟨w.heap.size + 1 + 1 + 1 + 1, 0, none⟩ (.int .i64 ((p : Int) + 1))) ∧
              SameIn (((wr.drewN nq).setCell ⟨w.heap.size + 1 + 1 + 1, 0, none⟩ (.int .i64 ((pre.length : Int) + 1))).setCell ⟨w.heap.size + 1 + 1 + 1 + 1, 0, none⟩ (.int .i64 ((p : Int) + 1))) w.heap.size xb Fx V s reads most (pre ++ [(p, v')]).length (nxP 0 (pre ++ [(p, v')])) ∧
              pre ++ [(p, v')] <+: toldP s.cells 0 ∧ Below w.heap.size w (((wr.drewN nq).setCell ⟨w.heap.size + 1 + 1 + 1, 0, none⟩ (.int .i64 ((pre.length : Int) + 1))).setCell ⟨w.heap.size + 1 + 1 + 1 + 1, 0, none⟩ (.int .i64 ((p : Int) + 1)))) := by
            refine ⟨fun nq => ?_⟩
            have hm : Mod [w.heap.size + 3, w.heap.size + 4] wr (((wr.drewN nq).setCell ⟨w.heap.size + 1 + 1 + 1, 0, none⟩ (.int .i64 ((pre.length : Int) + 1))).setCell ⟨w.heap.size + 1 + 1 + 1 + 1, 0, none⟩ (.int .i64 ((p : Int) + 1))) := (((Mod.refl _ wr).drewN nq).set (.inl (by simp)) _).set (.inl (by simp)) _
            refine ⟨HJ.out.2.1.trans ((keeps_drewN _ _).trans ((KeepsOthers.setCell _ _ _).trans (KeepsOthers.setCell _ _ _))), HJ.out.2.2.1.trans (KpC.of_mod hm (by simp)), ?_, (HX.out.2.2 _).2 rfl, HJ.out.2.2.2.1.trans (hm.below HJ.out.2.2.2.1.size (by simp))⟩
            rw [hlen1, hnx1]
            have := ((HJ.out.1.kp (KpC.of_mod (C := []) ((Mod.refl [] _).drewN nq) (by simp))).setN ((pre.length : Int) + 1)).setA ((p : Int) + 1)
            simpa using this
          rcases (show (pre.length : Int) + 1 = most ∨ (pre.length : Int) + 1 < most by have := HI.out.2.2.1; omega) with hlast | hlast
          · have hnm : ((pre.length : Int) + 1 == most) = true := by simp [hlast]
            clear hlen1 hnx1 hlast
            gi_wp2
            refine wpIn_round_quiet (by kernel_rfl) (by kernel_rfl) (by kernel_rfl) ?_
            repeat (go_big_quiet_step (fail))
            refine wpQuiet_nil ?_
            intro _ hw'; obtain ⟨nq, hw''⟩ := hw'; subst hw''
            gi_wp2
            refine wpIn_round_quiet (by kernel_rfl) (by kernel_rfl) (by kernel_rfl) ?_
            repeat (go_big_quiet_step (fail))
            refine wpQuiet_nil ?_
            intro _ hw'; obtain ⟨nq, hw''⟩ := hw'; subst hw''
            gi_wp2
            exact ⟨(HZ.out _).1, .inl ⟨rfl, (HZ.out _).2.2.1, (HZ.out 0).2.2.2.1, by rw [List.length_append]; simp at hnm; simpa using hnm, (HZ.out _).2.2.2.2⟩⟩
          · have hnm : ((pre.length : Int) + 1 == most) = false := by simp; omega
            clear hlen1 hnx1 
            gi_wp2
            refine wpIn_round_quiet (by kernel_rfl) (by kernel_rfl) (by kernel_rfl) ?_
            repeat (go_big_quiet_step (fail))
            refine wpQuiet_nil ?_
            intro _ hw'; obtain ⟨nq, hw''⟩ := hw'; subst hw''
            gi_wp2
            refine wpIn_round_quiet (by kernel_rfl) (by kernel_rfl) (by kernel_rfl) ?_
            repeat (go_big_quiet_step (fail))
            refine wpQuiet_nil ?_
            intro _ hw'; obtain ⟨nq, hw''⟩ := hw'; subst hw''
            gi_wp2
            exact ⟨(HZ.out _).1, (HZ.out _).2.1, (HZ.out _).2.2.1, (HZ.out 0).2.2.2.1, by rw [List.length_append]; simpa using hlast, (HZ.out _).2.2.2.2⟩
  case done =>
    rintro D xs W hD rfl ⟨hI, hpk, hlm, hB⟩ hK
    have hmin : min (s.live : Int) most = (toldP s.cells 0).length := by have h1 := toldP_len s.cells 0; have : s.cells.countP Option.isSome = s.live := rfl; omega
    have hD2 : w.heap.size ≤ D := by have := HS6.out.2.2.1.size; omega
    have hN1 : ((toldP s.cells 0).length : Int) ≤ 1000 := by omega
    generalize nxP 0 (toldP s.cells 0) = na at *
    generalize (toldP s.cells 0).length = N at *
    clear hpk hlm hD
    obtain ⟨vv, lv, fv, hFe, hR⟩ := hI.href
    have hcall : Calls Try.prog 32 #[.pointer (some ⟨xb, 0, none⟩)] W.drew fun e w' => e = .returned (.int .i64 s.live) ∧ w' = W.drew := (ref04_len (hR.mod (Mod.refl [] W).drew (by simp))).mono fun e w' h => ⟨h.1, h.2.symm⟩
    have cx : W.cell? ⟨w.heap.size, 0, none⟩ = some (.pointer (some ⟨xb, 0, none⟩)) := hI.hx.cell 0
    have cm : W.cell? ⟨w.heap.size + 1, 0, none⟩ = some (.int .i64 most) := hI.hm.cell 0
    have cr : W.cell? ⟨w.heap.size + 2, 0, none⟩ = some (.bool false) := hI.hr.cell 0
    have cn : W.cell? ⟨w.heap.size + 3, 0, none⟩ = some (.int .i64 N) := hI.hn.cell 0
    have fr := hI.hr.frozen 0
    have lr := hI.hr.lt
    have HE := Hidden.mk (And.intro hI (And.intro hB (And.intro hK hD2)))
    clear hI hB hFe hR hK hD2
    generalize s.live = L at *
    rcases (show (most < L ∧ most = N) ∨ ((L : Int) ≤ most ∧ L = N) by omega) with ⟨hml, hmN⟩ | ⟨hml, hmN⟩
    all_goals
      subst hmN
      clear hmin
      go_upto_region 12 with fail
      refine wp_tail 6 (by kernel_rfl) (by kernel_rfl) ?_
      simp only [List.take_succ_cons, List.take_zero, List.drop_succ_cons, List.drop_zero]
      iterate 2 still_step
      still_call hcall
      iterate 3 still_step
      refine wpStill_nil ?_
      go_wp2_with fail
      (try simp only [Exit.inBlock, Exit.then])
      have hK1 := ((KeepsOthers.setCell W ⟨w.heap.size + 2, 0, none⟩ (.bool true)).trans (KeepsOthers.drew _)).same D _ HE.out.2.2.1 rfl
      have hc5 : ((W.setCell ⟨w.heap.size + 2, 0, none⟩ (.bool true)).drew.putObj D (.deferred none)).cell? ⟨w.heap.size + 2, 0, none⟩ = some (.bool true) := ((by simpa using (HE.out.1.hr.set 0 (.bool true)).drew : Blk (W.setCell ⟨w.heap.size + 2, 0, none⟩ (.bool true)).drew (w.heap.size + 2) 4 #[.bool true]).kp (KpC.put (C := []) _ D _ _ hK1 rfl) (by simp)).cell 0
      refine bodyPostM_ret (v := .bool true) (D := D) rfl hK1 ?_ ⟨rfl, ?_⟩
      · simp [results, Try.results35, go_sem, hc5]
      · exact (HE.out.2.1.trans ((((Mod.refl [w.heap.size + 2] W).set (.inl (by simp)) _).drew).below HE.out.2.1.size (by simp))).trans (belowK_b (w := w) (Nat.le_refl _) _ D _ _ HE.out.2.2.2 hK1 rfl rfl)
  case stop =>
    intro D c pre W hD hp hn hK
    rcases hn with ⟨rfl, hI, hpk, hlm, hB⟩ | hno
    · have hmin : min (s.live : Int) most = pre.length := by have := hpk.length_le; rw [toldP_len] at this; have : pre.length ≤ s.live := this; omega
      have hD2 : w.heap.size ≤ D := by have := HS6.out.2.2.1.size; omega
      have hN1 : (pre.length : Int) ≤ 1000 := by omega
      generalize nxP 0 pre = na at *
      clear hpk hp hD
      generalize pre.length = N at *
      clear hlm
      obtain ⟨vv, lv, fv, hFe, hR⟩ := hI.href
      have hcall : Calls Try.prog 32 #[.pointer (some ⟨xb, 0, none⟩)] W.drew fun e w' => e = .returned (.int .i64 s.live) ∧ w' = W.drew := (ref04_len (hR.mod (Mod.refl [] W).drew (by simp))).mono fun e w' h => ⟨h.1, h.2.symm⟩
      have cx : W.cell? ⟨w.heap.size, 0, none⟩ = some (.pointer (some ⟨xb, 0, none⟩)) := hI.hx.cell 0
      have cm : W.cell? ⟨w.heap.size + 1, 0, none⟩ = some (.int .i64 most) := hI.hm.cell 0
      have cr : W.cell? ⟨w.heap.size + 2, 0, none⟩ = some (.bool false) := hI.hr.cell 0
      have cn : W.cell? ⟨w.heap.size + 3, 0, none⟩ = some (.int .i64 N) := hI.hn.cell 0
      have fr := hI.hr.frozen 0
      have lr := hI.hr.lt
      have HE := Hidden.mk (And.intro hI (And.intro hB (And.intro hK hD2)))
      clear hI hB hFe hR hK hD2
      generalize s.live = L at *
      rcases (show (most < L ∧ most = N) ∨ ((L : Int) ≤ most ∧ L = N) by omega) with ⟨hml, hmN⟩ | ⟨hml, hmN⟩
      all_goals
        subst hmN
        clear hmin
        gi_wp2
        go_upto_region 12 with fail
        refine wp_tail 6 (by kernel_rfl) (by kernel_rfl) ?_
        simp only [List.take_succ_cons, List.take_zero, List.drop_succ_cons, List.drop_zero]
        iterate 2 still_step
        still_call hcall
        iterate 3 still_step
        refine wpStill_nil ?_
        go_wp2_with fail
        (try simp only [Exit.inBlock, Exit.then])
        have hK1 := ((KeepsOthers.setCell W ⟨w.heap.size + 2, 0, none⟩ (.bool true)).trans (KeepsOthers.drew _)).same D _ HE.out.2.2.1 rfl
        have hc5 : ((W.setCell ⟨w.heap.size + 2, 0, none⟩ (.bool true)).drew.putObj D (.deferred none)).cell? ⟨w.heap.size + 2, 0, none⟩ = some (.bool true) := ((by simpa using (HE.out.1.hr.set 0 (.bool true)).drew : Blk (W.setCell ⟨w.heap.size + 2, 0, none⟩ (.bool true)).drew (w.heap.size + 2) 4 #[.bool true]).kp (KpC.put (C := []) _ D _ _ hK1 rfl) (by simp)).cell 0
        refine bodyPostM_ret (v := .bool true) (D := D) rfl hK1 ?_ ⟨rfl, ?_⟩
        · simp [results, Try.results35, go_sem, hc5]
        · exact (HE.out.2.1.trans ((((Mod.refl [w.heap.size + 2] W).set (.inl (by simp)) _).drew).below HE.out.2.1.size (by simp))).trans (belowK_b (w := w) (Nat.le_refl _) _ D _ _ HE.out.2.2.2 hK1 rfl rfl)
    · exact absurd hp hno
end Go.Proofs.Ytnbanbfnabhjjaa
