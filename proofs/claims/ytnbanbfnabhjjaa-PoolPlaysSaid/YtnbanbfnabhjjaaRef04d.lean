/- The document's pool (stepstoneref04) in memory: Do, a new place. -/
import Derived.Test.YtnbanbfnabhjjaaRef04b
import Derived.Test.YtnbanbfnabhjjaaUntil
namespace Go.Proofs.Ytnbanbfnabhjjaa
open Go.RowKit
set_option linter.unusedVariables false
set_option linter.unusedSimpArgs false

set_option maxRecDepth 100000 in
set_option maxHeartbeats 4000000 in
theorem do0_new {w : World} {xb : Nat} {vv lv fv : Value} {V : List Int} {s : PS Int} {reads : Int} (dd I v : Int) (h : RefIn w xb vv lv fv V s reads) (hdd : 0 ≤ dd ∧ dd ≤ 255) (hc : dd % 6 = 0) (hl : s.live < s.limit) (hf : s.free = []) :
    Calls Try.prog 80 #[.pointer (some ⟨xb, 0, none⟩), .agg #[.int .u8 dd, .int .i64 I, .int .u64 v]] w (DoPost w xb (xb :: (rb vv ++ (rb lv ++ rb fv))) s.cells.length 0 true (s.take v) reads) := by
  have htk := ref04_taken I (h.mod ((Mod.refl [] w).alloc (.cells #[.int .u8 dd, .int .i64 I, .int .u64 v] 51)) (by simp))
  have hxlt := h.blk.lt
  have hlen := fun W (hW : Mod [] w W) => ref04_len (h.mod hW (by simp))
  have c3 : w.cell? ⟨xb, 3, none⟩ = some (.int .i64 s.limit) := h.blk.cell 3
  have hd : decide (s.limit ≤ s.live) = false := by simpa using hl
  have hlim := h.wf.lim
  have hlen0 := h.wf.len
  have hcnt := h.wf.count
  have H := Hidden.mk h
  have hl' := Hidden.mk hl
  clear h hl
  generalize (s.get I).isSome = tk at htk
  go_enter Try.func80, Try.ntmps80
  go_wp2_with fail
  refine htk.mono ?_; clear htk; rintro e w1 ⟨rfl, rfl⟩
  go_wp2_with fail
  go_quiet ((go_at_call 32; exact quiet_drewN4 (hlen _ (((Mod.refl [] w).alloc _).drewN _))))
  obtain ⟨W, hW⟩ : ∃ W, (w.alloc (.cells #[.int .u8 dd, .int .i64 I, .int .u64 v] 51)).drewN nq = W := ⟨_, rfl⟩
  have hmW : Mod [] w W := hW ▸ ((Mod.refl [] w).alloc _).drewN _
  have hA : Blk W w.heap.size 51 #[.int .u8 dd, .int .i64 I, .int .u64 v] := hW ▸ (Blk.new w _ _).drewN _
  simp only [hW]
  clear hW hlen
  have a2 : W.cell? ⟨w.heap.size, 2, none⟩ = some (.int .u64 v) := hA.cell 2
  have al := hA.lt
  have HA := Hidden.mk hA
  clear hA
  have h := H.out.mod hmW (by simp)
  have hvl := h.vlen
  have hrow := h.vals
  have hlrow := h.live
  have hfrow := h.free
  rw [hf] at hfrow hcnt
  simp only [List.length_nil] at hfrow hcnt
  obtain ⟨va, vcap, rfl, v2, v3⟩ := hrow.slice_
  obtain ⟨la, lcap, rfl, l2, l3⟩ := hlrow.slice_
  obtain ⟨fa, fcap, rfl, f2, f3⟩ := hfrow.slice_
  have b0 : W.cell? ⟨xb, 0, none⟩ = some (.slice va V.length vcap) := h.blk.cell 0
  have bf0 := h.blk.frozen 0
  have b1 : W.cell? ⟨xb, 1, none⟩ = some (.slice la s.cells.length lcap) := h.blk.cell 1
  have bf1 := h.blk.frozen 1
  have b2 : W.cell? ⟨xb, 2, none⟩ = some (.slice fa 0 fcap) := h.blk.cell 2
  have bf2 := h.blk.frozen 2
  have bl := h.blk.lt
  have hax : w.heap.size ≠ xb := by have := H.out.blk.lt; omega
  have hn63 : (V.length : Int) ≤ 9223372036854775807 := by omega
  have HH := Hidden.mk (And.intro h (And.intro hmW (And.intro hvl hf)))
  have hxv : xb ∉ rb (.slice va V.length vcap) := h.vals.ty h.blk (by decide)
  have hxl : xb ∉ rb (.slice la s.cells.length lcap) := h.live.ty h.blk (by decide)
  have hlv : ∀ k ∈ rb (.slice la s.cells.length lcap), k ∉ rb (.slice va V.length vcap) := h.vals.ty2 h.live (by decide)
  have hvm : V.length ≤ 1048576 := by omega
  have hcm : s.cells.length ≤ 1048576 := by omega
  have HD := Hidden.mk (And.intro hxv (And.intro hxl hlv))
  have HV : Hidden (∀ k ∈ rb (.slice va V.length vcap), k < W.heap.size) := ⟨fun k hk => h.vals.lt hk⟩
  clear h hmW hf hrow hlrow hfrow hxv hxl hlv hvl
  go_wp2_with fail
  have hS : (fun w' : World => w'.cell? ⟨xb, 0, none⟩ = some (.slice va V.length vcap) ∧ w'.cell? ⟨xb, 1, none⟩ = some (.slice la s.cells.length lcap) ∧ w'.cell? ⟨w.heap.size, 2, none⟩ = some (.int .u64 v)) W.drew := ⟨by simpa using b0, by simpa using b1, by simpa using a2⟩
  refine wp_region_until (S := fun w' : World => w'.cell? ⟨xb, 0, none⟩ = some (.slice va V.length vcap) ∧ w'.cell? ⟨xb, 1, none⟩ = some (.slice la s.cells.length lcap) ∧ w'.cell? ⟨w.heap.size, 2, none⟩ = some (.int .u64 v)) (l := [16, 17, 18, 19, 20, 21]) (by kernel_rfl) ?_
  refine wpAnyU_take0 (i := 0) (v := ?val0) rfl (by kernel_rfl) (by kernel_rfl) (by kernel_rfl) (by kernel_rfl) (fun _ _ _ h => h) (Or.inl ⟨by rfl, ?hy0⟩) (by assumption) ?rest0
  case hy0 =>
    intro w _; go_simp
    all_goals (first | done | with_reducible rfl)
  (try simp only [Act.put, List.getElem_toArray, List.getElem_cons_zero, List.getElem_cons_succ, List.setIfInBounds_toArray, List.set_cons_zero, List.set_cons_succ])
  refine wpAnyU_take0 (i := 1) (v := ?val1) rfl (by kernel_rfl) (by kernel_rfl) (by kernel_rfl) (by kernel_rfl) (fun _ _ _ h => h) (Or.inl ⟨by rfl, ?hy1⟩) (by assumption) ?rest1
  case hy1 =>
    intro w _; go_simp
    all_goals (first | done | with_reducible rfl)
  (try simp only [Act.put, List.getElem_toArray, List.getElem_cons_zero, List.getElem_cons_succ, List.setIfInBounds_toArray, List.set_cons_zero, List.set_cons_succ])
  refine wpAnyU_take0 (i := 2) (v := ?val2) rfl (by kernel_rfl) (by kernel_rfl) (by kernel_rfl) (by kernel_rfl) (fun _ _ _ h => h) (Or.inl ⟨by rfl, ?hy2⟩) (by assumption) ?rest2
  case hy2 =>
    intro w _; go_simp
    all_goals (first | done | with_reducible rfl)
  (try simp only [Act.put, List.getElem_toArray, List.getElem_cons_zero, List.getElem_cons_succ, List.setIfInBounds_toArray, List.set_cons_zero, List.set_cons_succ])
  refine wpAnyU_take0 (i := 3) (v := ?val3) rfl (by kernel_rfl) (by kernel_rfl) (by kernel_rfl) (by kernel_rfl) (fun _ _ _ h => h) (Or.inl ⟨by rfl, ?hy3⟩) (by assumption) ?rest3
  case hy3 =>
    intro w _; go_simp
    all_goals (first | done | with_reducible rfl)
  (try simp only [Act.put, List.getElem_toArray, List.getElem_cons_zero, List.getElem_cons_succ, List.setIfInBounds_toArray, List.set_cons_zero, List.set_cons_succ])
  refine wpAnyU_take0 (i := 4) (v := ?val4) rfl (by kernel_rfl) (by kernel_rfl) (by kernel_rfl) (by kernel_rfl) (fun _ _ _ h => h) (Or.inl ⟨by rfl, ?hy4⟩) (by assumption) ?rest4
  case hy4 =>
    intro w _; go_simp
    all_goals (first | done | with_reducible rfl)
  (try simp only [Act.put, List.getElem_toArray, List.getElem_cons_zero, List.getElem_cons_succ, List.setIfInBounds_toArray, List.set_cons_zero, List.set_cons_succ])
  refine wpAnyU_take (i := 5) (v := ?val5) rfl (by kernel_rfl) (by kernel_rfl) (by kernel_rfl) (by kernel_rfl) (fun _ _ _ h => h) (Or.inl ⟨by rfl, ?hy5⟩) (by kernel_rfl) (by assumption) ?rest5
  case hy5 =>
    intro w hSw; (try dsimp only at hSw); obtain ⟨hS1, hS2, hS3⟩ := hSw; go_simp
    all_goals (first | done | with_reducible rfl)
  (try simp only [Act.put, List.getElem_toArray, List.getElem_cons_zero, List.getElem_cons_succ, List.setIfInBounds_toArray, List.set_cons_zero, List.set_cons_succ])
  refine wpAnyU_take0 (i := 6) (v := ?val6) rfl (by kernel_rfl) (by kernel_rfl) (by kernel_rfl) (by kernel_rfl) (fun _ _ _ h => h) (Or.inl ⟨by rfl, ?hy6⟩) (by assumption) ?rest6
  case hy6 =>
    intro w _; go_simp
    all_goals (first | done | with_reducible rfl)
  (try simp only [Act.put, List.getElem_toArray, List.getElem_cons_zero, List.getElem_cons_succ, List.setIfInBounds_toArray, List.set_cons_zero, List.set_cons_succ])
  refine wpAnyU_take (i := 7) (v := ?val7) rfl (by kernel_rfl) (by kernel_rfl) (by kernel_rfl) (by kernel_rfl) (fun _ _ _ h => h) (Or.inl ⟨by rfl, ?hy7⟩) (by kernel_rfl) (by assumption) ?rest7
  case hy7 =>
    intro w hSw; (try dsimp only at hSw); obtain ⟨hS1, hS2, hS3⟩ := hSw; go_simp
    all_goals (first | done | with_reducible rfl)
  (try simp only [Act.put, List.getElem_toArray, List.getElem_cons_zero, List.getElem_cons_succ, List.setIfInBounds_toArray, List.set_cons_zero, List.set_cons_succ])
  refine wpAnyU_take0 (i := 10) (v := ?val10) rfl (by kernel_rfl) (by kernel_rfl) (by kernel_rfl) (by kernel_rfl) (fun _ _ _ h => h) (Or.inl ⟨by rfl, ?hy10⟩) (by assumption) ?rest10
  case hy10 =>
    intro w _; go_simp
    all_goals (first | done | with_reducible rfl)
  (try simp only [Act.put, List.getElem_toArray, List.getElem_cons_zero, List.getElem_cons_succ, List.setIfInBounds_toArray, List.set_cons_zero, List.set_cons_succ])
  refine wpAnyU_take0 (i := 11) (v := ?val11) rfl (by kernel_rfl) (by kernel_rfl) (by kernel_rfl) (by kernel_rfl) (fun _ _ _ h => h) (Or.inl ⟨by rfl, ?hy11⟩) (by assumption) ?rest11
  case hy11 =>
    intro w _; go_simp
    all_goals (first | done | with_reducible rfl)
  (try simp only [Act.put, List.getElem_toArray, List.getElem_cons_zero, List.getElem_cons_succ, List.setIfInBounds_toArray, List.set_cons_zero, List.set_cons_succ])
  refine wpAnyU_take0 (i := 12) (v := ?val12) rfl (by kernel_rfl) (by kernel_rfl) (by kernel_rfl) (by kernel_rfl) (fun _ _ _ h => h) (Or.inl ⟨by rfl, ?hy12⟩) (by assumption) ?rest12
  case hy12 =>
    intro w _; go_simp
    all_goals (first | done | with_reducible rfl)
  (try simp only [Act.put, List.getElem_toArray, List.getElem_cons_zero, List.getElem_cons_succ, List.setIfInBounds_toArray, List.set_cons_zero, List.set_cons_succ])
  refine wpAnyU_take (i := 13) (v := ?val13) rfl (by kernel_rfl) (by kernel_rfl) (by kernel_rfl) (by kernel_rfl) (fun _ _ _ h => h) (Or.inl ⟨by rfl, ?hy13⟩) (by kernel_rfl) (by assumption) ?rest13
  case hy13 =>
    intro w hSw; (try dsimp only at hSw); obtain ⟨hS1, hS2, hS3⟩ := hSw; go_simp
    all_goals (first | done | with_reducible rfl)
  (try simp only [Act.put, List.getElem_toArray, List.getElem_cons_zero, List.getElem_cons_succ, List.setIfInBounds_toArray, List.set_cons_zero, List.set_cons_succ])
  refine wpAnyU_ready (rs := [8, 14]) (by kernel_rfl) (by simp) ?_
  refine AllReadyU.cons (i := 8) rfl (fun K hK => ?_) ?_
  · skip
    go_simp
    refine hK.out _ _ (by first | go_keep | (dsimp only; refine ⟨?_, ?_, ?_⟩ <;> go_keep)) (fun hHeld => ?_)
    clear hK K
    (try simp only [Act.put, List.getElem_toArray, List.getElem_cons_zero, List.getElem_cons_succ, List.setIfInBounds_toArray, List.set_cons_zero, List.set_cons_succ])
    refine wpAnyU_ready (rs := [9, 14]) (by kernel_rfl) (by simp) ?_
    refine AllReadyU.cons (i := 9) rfl (fun K hK => ?_) ?_
    · skip
      refine step_any rfl (.tmp 75) (.tmp 78) 45 rfl 22 (.int .u64 0) 1 8 (by kernel_rfl) ref04_u64 rfl (by decide) _ V.length (icells .u64 V) rfl (HH.out.1.vals.mod (S := []) (by (repeat (first | (with_reducible refine Mod.drew ?_) | (with_reducible refine Mod.drewN ?_ _) | (with_reducible refine Mod.alloc ?_ _))); exact Mod.refl [] W) (by simp)) _ 1 [.int .u64 v] rfl (holds_cell (by simp)) (by simp [Value.oneCell']) (by omega) (by omega) ?_
      intro b1 n1 w3 r3 m3 q3
      have hM3 := Mod.trans (Mod.mono (T := rb (.slice va V.length vcap)) (show Mod [] W _ from by (repeat (first | (with_reducible refine Mod.drew ?_) | (with_reducible refine Mod.drewN ?_ _) | (with_reducible refine Mod.alloc ?_ _))); exact Mod.refl [] W) (by simp)) m3 (fun x hx => .inl hx)
      have hb3 := HH.out.1.blk.mod hM3 HD.out.1
      have e30 : w3.cell? ⟨xb, 0, none⟩ = some (.slice va V.length vcap) := hb3.cell 0
      have e31 : w3.cell? ⟨xb, 1, none⟩ = some (.slice la s.cells.length lcap) := hb3.cell 1
      have e3l := hb3.lt
      have e32 : w3.cell? ⟨w.heap.size, 2, none⟩ = some (.int .u64 v) := (HA.out.mod hM3 (fun hk => by have := H.out.vals.lt hk; omega)).cell 2
      have q3' : ∀ k ∈ rb (.slice b1 (V.length + 1) n1), k ∈ rb (.slice va V.length vcap) ∨ W.heap.size ≤ k := fun k hk => (q3 k hk).imp id (fun h => Nat.le_trans (show Mod [] W _ from by (repeat (first | (with_reducible refine Mod.drew ?_) | (with_reducible refine Mod.drewN ?_ _) | (with_reducible refine Mod.alloc ?_ _))); exact Mod.refl [] W).size h)
      have E33 := Hidden.mk (fun q x (hq : q ∉ rb (.slice va V.length vcap)) hx => cell_modS m3 (q := q) (i := 0) (x := x) hq hx)
      have H3 := Hidden.mk (And.intro hM3 (And.intro r3 (And.intro q3' hb3)))
      clear hM3 hb3 m3 r3 q3 q3'
      refine hK.out _ _ ⟨e30, e31, e32⟩ (fun hHeld => ?_)
      clear hK K
      (try simp only [Act.put, List.getElem_toArray, List.getElem_cons_zero, List.getElem_cons_succ, List.setIfInBounds_toArray, List.set_cons_zero, List.set_cons_succ])
      refine wpAnyU_ready (rs := [14]) (by kernel_rfl) (by simp) ?_
      refine AllReadyU.cons (i := 14) rfl (fun K hK => ?_) ?_
      · skip
        go_simp
        refine hK.out _ _ (by first | go_keep | (dsimp only; refine ⟨?_, ?_, ?_⟩ <;> go_keep)) (fun hHeld => ?_)
        clear hK K
        (try simp only [Act.put, List.getElem_toArray, List.getElem_cons_zero, List.getElem_cons_succ, List.setIfInBounds_toArray, List.set_cons_zero, List.set_cons_succ])
        refine wpAnyU_ready (rs := [15]) (by kernel_rfl) (by simp) ?_
        refine AllReadyU.cons (i := 15) rfl (fun K hK => ?_) ?_
        · skip
          refine step_any rfl (.tmp 83) (.tmp 84) 46 rfl 4 (.bool false) 1 1 (by kernel_rfl) ref04_bool rfl (by decide) _ s.cells.length (bcells (s.cells.map Option.isSome)) rfl (Row.mod (S := []) (HH.out.1.live.mod H3.out.1 HD.out.2.2) (by (repeat (first | (with_reducible refine Mod.drew ?_) | (with_reducible refine Mod.drewN ?_ _) | (with_reducible refine Mod.alloc ?_ _))); exact Mod.refl [] w3) (by simp)) _ 1 [.bool true] rfl (holds_cell (by first | (simp; done) | exact E33.out _ _ (fun hk => absurd (HV.out _ hk) (by first | omega | (simp; done) | (simp; omega))) (by simp))) (by simp [Value.oneCell']) (by omega) (by omega) ?_
          intro b2 n2 w4 r4 m4 q4
          have hM4 := Mod.trans (Mod.mono (T := rb (.slice la s.cells.length lcap)) (show Mod [] w3 _ from by (repeat (first | (with_reducible refine Mod.drew ?_) | (with_reducible refine Mod.drewN ?_ _) | (with_reducible refine Mod.alloc ?_ _))); exact Mod.refl [] w3) (by simp)) m4 (fun x hx => .inl hx)
          have hb4 := H3.out.2.2.2.mod hM4 HD.out.2.1
          have e40 : w4.cell? ⟨xb, 0, none⟩ = some (.slice va V.length vcap) := hb4.cell 0
          have e41 : w4.cell? ⟨xb, 1, none⟩ = some (.slice la s.cells.length lcap) := hb4.cell 1
          have f40 := hb4.frozen 0
          have f41 := hb4.frozen 1
          have e4l := hb4.lt
          have e42 : w4.cell? ⟨w.heap.size, 2, none⟩ = some (.int .u64 v) := ((HA.out.mod H3.out.1 (fun hk => by have := H.out.vals.lt hk; omega)).mod hM4 (fun hk => by have := H.out.live.lt hk; omega)).cell 2
          have q4' : ∀ k ∈ rb (.slice b2 (s.cells.length + 1) n2), k ∈ rb (.slice la s.cells.length lcap) ∨ w3.heap.size ≤ k := fun k hk => (q4 k hk).imp id (fun h => Nat.le_trans (show Mod [] w3 _ from by (repeat (first | (with_reducible refine Mod.drew ?_) | (with_reducible refine Mod.drewN ?_ _) | (with_reducible refine Mod.alloc ?_ _))); exact Mod.refl [] w3).size h)
          have H4 := Hidden.mk (And.intro hM4 (And.intro r4 (And.intro q4' hb4)))
          clear hM4 hb4 m4 r4 q4 q4'
          refine hK.out _ _ ⟨e40, e41, e42⟩ (fun hHeld => ?_)
          clear hK K
          (try simp only [Act.put, List.getElem_toArray, List.getElem_cons_zero, List.getElem_cons_succ, List.setIfInBounds_toArray, List.set_cons_zero, List.set_cons_succ])
          refine wpAnyU_free (by intro i hi; rw [show Region.ready _ _ _ = [16] from by kernel_rfl] at hi; simp at hi; subst hi; exact ⟨rfl, by decide⟩) ?_
          refine wpAny_take (i := 16) (v := ?v16_1) rfl (by kernel_rfl) (by kernel_rfl) (by kernel_rfl) (fun _ _ _ h => h) (Or.inl ⟨by rfl, ?h16_1⟩) ?r16_1
          case h16_1 =>
            intro w; go_simp
            all_goals (first | done | with_reducible rfl)
          (try simp only [Act.put, List.getElem_toArray, List.getElem_cons_zero, List.getElem_cons_succ, List.setIfInBounds_toArray, List.set_cons_zero, List.set_cons_succ])
          refine wpAny_take (i := 17) (v := ?v17_1) rfl (by kernel_rfl) (by kernel_rfl) (by kernel_rfl) (fun _ _ _ h => h) (Or.inl ⟨by rfl, ?h17_1⟩) ?r17_1
          case h17_1 =>
            intro w; go_simp
            all_goals (first | done | with_reducible rfl)
          (try simp only [Act.put, List.getElem_toArray, List.getElem_cons_zero, List.getElem_cons_succ, List.setIfInBounds_toArray, List.set_cons_zero, List.set_cons_succ])
          refine wpAny_ready (rs := [18]) (by kernel_rfl) (by simp) ?_
          refine AllReady.cons rfl (fun K hK => ?_) AllReady.nil
          go_simp
          refine hK _ _ ?_
          clear hK K
          (try simp only [Act.put, List.getElem_toArray, List.getElem_cons_zero, List.getElem_cons_succ, List.setIfInBounds_toArray, List.set_cons_zero, List.set_cons_succ])
          refine wpAny_take (i := 19) (v := ?v19_1) rfl (by kernel_rfl) (by kernel_rfl) (by kernel_rfl) (fun _ _ _ h => h) (Or.inl ⟨by rfl, ?h19_1⟩) ?r19_1
          case h19_1 =>
            intro w; go_simp
            all_goals (first | done | with_reducible rfl)
          (try simp only [Act.put, List.getElem_toArray, List.getElem_cons_zero, List.getElem_cons_succ, List.setIfInBounds_toArray, List.set_cons_zero, List.set_cons_succ])
          refine wpAny_take (i := 20) (v := ?v20_1) rfl (by kernel_rfl) (by kernel_rfl) (by kernel_rfl) (fun _ _ _ h => h) (Or.inl ⟨by rfl, ?h20_1⟩) ?r20_1
          case h20_1 =>
            intro w; go_simp
            all_goals (first | done | with_reducible rfl)
          (try simp only [Act.put, List.getElem_toArray, List.getElem_cons_zero, List.getElem_cons_succ, List.setIfInBounds_toArray, List.set_cons_zero, List.set_cons_succ])
          refine wpAny_ready (rs := [21]) (by kernel_rfl) (by simp) ?_
          refine AllReady.cons rfl (fun K hK => ?_) AllReady.nil
          go_simp
          refine hK _ _ ?_
          clear hK K
          (try simp only [Act.put, List.getElem_toArray, List.getElem_cons_zero, List.getElem_cons_succ, List.setIfInBounds_toArray, List.set_cons_zero, List.set_cons_succ])
          refine wpAny_done (by kernel_rfl) ?_ _
          go_wp2
          go_ret3
          obtain ⟨h, hmW, hvl, hf⟩ := HH.out
          obtain ⟨hM3, r3, q3, hb3⟩ := H3.out
          obtain ⟨hM4, r4, q4, hb4⟩ := H4.out
          have het : s.take v = { s with cells := s.cells ++ [some v] } := by unfold PS.take; rw [hf]; rfl
          have hl3 := h.live.mod hM3 HD.out.2.2
          have d1 := hl3.ty2 r3 (by decide)
          have hx1 : xb ∉ rb (.slice b1 (V.length + 1) n1) := r3.ty hb3 (by decide)
          have hx2 : xb ∉ rb (.slice b2 (s.cells.length + 1) n2) := r4.ty hb4 (by decide)
          have hxf : xb ∉ rb (.slice fa 0 fcap) := h.free.ty h.blk (by decide)
          have hfr : Row W 3 1 (.slice fa 0 fcap) 0 [] := by have := h.free; rw [hf] at this; exact this
          have hf3 := hfr.mod hM3 (h.vals.ty2 hfr (by decide))
          have hf4 := hf3.mod hM4 (hl3.ty2 hf3 (by decide))
          have hms := hmW.size
          have hm3s := hM3.size
          refine ⟨by show Ending.returned (.tuple #[.int .i64 ((V.length : Nat) : Int), .int .u64 0, .bool true]) = _; rw [hvl], _, V ++ [v], ⟨.slice b1 (V.length + 1) n1, .slice b2 (s.cells.length + 1) n2, .slice fa 0 fcap, rfl, ?_, ?_, ?_, ?_, PS.take_wf h.wf hl'.out _, by rw [het]; simp [hvl], ?_⟩, ?_, ?_⟩
          · rw [show (s.take v).limit = s.limit from by rw [het]]
            repeat (first | (with_reducible refine Blk.drew ?_) | (with_reducible refine Blk.drewN ?_ _))
            exact (hb4.set 0 _).set 1 _
          · rw [show (V ++ [v]).length = V.length + 1 from by simp, ← icells_snoc]
            repeat (first | (with_reducible refine Row.drew ?_) | (with_reducible refine Row.drewN ?_ _) | (with_reducible refine Row.far ?_ hx1 _))
            exact r3.mod hM4 d1
          · have e : bcells ((s.take v).cells.map Option.isSome) = bcells (s.cells.map Option.isSome) ++ [.bool true] := by rw [het]; simp [bcells]
            rw [e, show (s.take v).cells.length = s.cells.length + 1 from by rw [het]; simp]
            repeat (first | (with_reducible refine Row.drew ?_) | (with_reducible refine Row.drewN ?_ _) | (with_reducible refine Row.far ?_ hx2 _))
            exact r4
          · rw [show (s.take v).free = [] from by rw [het]; exact hf]
            repeat (first | (with_reducible refine Row.drew ?_) | (with_reducible refine Row.drewN ?_ _) | (with_reducible refine Row.far ?_ hxf _))
            exact hf4
          · intro j y hy
            rw [het] at hy
            simp only [List.getElem?_append] at hy ⊢
            split at hy
            · rename_i hj
              rw [if_pos (by omega)]; exact h.vget j y hy
            · rename_i hj
              rw [if_neg (by omega), hvl]
              cases hq : j - s.cells.length with
              | zero => rw [hq] at hy; simp at hy ⊢; exact hy
              | succ q => rw [hq] at hy; simp at hy
          · repeat (first | (with_reducible refine Mod.drew ?_) | (with_reducible refine Mod.drewN ?_ _) | ((with_reducible refine Mod.set ?_ ?_ _); rotate_left 1; (left; simp)))
            exact ((hmW.mono (by simp)).trans hM3 (fun x hx => .inl (by simp [hx]))).trans hM4 (fun x hx => .inl (by simp [hx]))
          · intro k hk
            simp only [List.mem_cons, List.mem_append] at hk ⊢
            rcases hk with hk | hk | hk | hk
            · exact .inl (.inl hk)
            · rcases q3 k hk with hk | hk
              · exact .inl (.inr (.inl hk))
              · right; omega
            · rcases q4 k hk with hk | hk
              · exact .inl (.inr (.inr (.inl hk)))
              · right; omega
            · exact .inl (.inr (.inr (.inr hk)))
        exact AllReadyU.nil
      exact AllReadyU.nil
    refine AllReadyU.cons (i := 14) rfl (fun K hK => ?_) ?_
    · skip
      go_simp
      refine hK.out _ _ (by first | go_keep | (dsimp only; refine ⟨?_, ?_, ?_⟩ <;> go_keep)) (fun hHeld => ?_)
      clear hK K
      (try simp only [Act.put, List.getElem_toArray, List.getElem_cons_zero, List.getElem_cons_succ, List.setIfInBounds_toArray, List.set_cons_zero, List.set_cons_succ])
      refine wpAnyU_ready (rs := [9]) (by kernel_rfl) (by simp) ?_
      refine AllReadyU.cons (i := 9) rfl (fun K hK => ?_) ?_
      · skip
        refine step_any rfl (.tmp 75) (.tmp 78) 45 rfl 22 (.int .u64 0) 1 8 (by kernel_rfl) ref04_u64 rfl (by decide) _ V.length (icells .u64 V) rfl (HH.out.1.vals.mod (S := []) (by (repeat (first | (with_reducible refine Mod.drew ?_) | (with_reducible refine Mod.drewN ?_ _) | (with_reducible refine Mod.alloc ?_ _))); exact Mod.refl [] W) (by simp)) _ 1 [.int .u64 v] rfl (holds_cell (by simp)) (by simp [Value.oneCell']) (by omega) (by omega) ?_
        intro b1 n1 w3 r3 m3 q3
        have hM3 := Mod.trans (Mod.mono (T := rb (.slice va V.length vcap)) (show Mod [] W _ from by (repeat (first | (with_reducible refine Mod.drew ?_) | (with_reducible refine Mod.drewN ?_ _) | (with_reducible refine Mod.alloc ?_ _))); exact Mod.refl [] W) (by simp)) m3 (fun x hx => .inl hx)
        have hb3 := HH.out.1.blk.mod hM3 HD.out.1
        have e30 : w3.cell? ⟨xb, 0, none⟩ = some (.slice va V.length vcap) := hb3.cell 0
        have e31 : w3.cell? ⟨xb, 1, none⟩ = some (.slice la s.cells.length lcap) := hb3.cell 1
        have e3l := hb3.lt
        have e32 : w3.cell? ⟨w.heap.size, 2, none⟩ = some (.int .u64 v) := (HA.out.mod hM3 (fun hk => by have := H.out.vals.lt hk; omega)).cell 2
        have q3' : ∀ k ∈ rb (.slice b1 (V.length + 1) n1), k ∈ rb (.slice va V.length vcap) ∨ W.heap.size ≤ k := fun k hk => (q3 k hk).imp id (fun h => Nat.le_trans (show Mod [] W _ from by (repeat (first | (with_reducible refine Mod.drew ?_) | (with_reducible refine Mod.drewN ?_ _) | (with_reducible refine Mod.alloc ?_ _))); exact Mod.refl [] W).size h)
        have E33 := Hidden.mk (fun q x (hq : q ∉ rb (.slice va V.length vcap)) hx => cell_modS m3 (q := q) (i := 0) (x := x) hq hx)
        have H3 := Hidden.mk (And.intro hM3 (And.intro r3 (And.intro q3' hb3)))
        clear hM3 hb3 m3 r3 q3 q3'
        refine hK.out _ _ ⟨e30, e31, e32⟩ (fun hHeld => ?_)
        clear hK K
        (try simp only [Act.put, List.getElem_toArray, List.getElem_cons_zero, List.getElem_cons_succ, List.setIfInBounds_toArray, List.set_cons_zero, List.set_cons_succ])
        refine wpAnyU_ready (rs := [15]) (by kernel_rfl) (by simp) ?_
        refine AllReadyU.cons (i := 15) rfl (fun K hK => ?_) ?_
        · skip
          refine step_any rfl (.tmp 83) (.tmp 84) 46 rfl 4 (.bool false) 1 1 (by kernel_rfl) ref04_bool rfl (by decide) _ s.cells.length (bcells (s.cells.map Option.isSome)) rfl (Row.mod (S := []) (HH.out.1.live.mod H3.out.1 HD.out.2.2) (by (repeat (first | (with_reducible refine Mod.drew ?_) | (with_reducible refine Mod.drewN ?_ _) | (with_reducible refine Mod.alloc ?_ _))); exact Mod.refl [] w3) (by simp)) _ 1 [.bool true] rfl (holds_cell (by first | (simp; done) | exact E33.out _ _ (fun hk => absurd (HV.out _ hk) (by first | omega | (simp; done) | (simp; omega))) (by simp))) (by simp [Value.oneCell']) (by omega) (by omega) ?_
          intro b2 n2 w4 r4 m4 q4
          have hM4 := Mod.trans (Mod.mono (T := rb (.slice la s.cells.length lcap)) (show Mod [] w3 _ from by (repeat (first | (with_reducible refine Mod.drew ?_) | (with_reducible refine Mod.drewN ?_ _) | (with_reducible refine Mod.alloc ?_ _))); exact Mod.refl [] w3) (by simp)) m4 (fun x hx => .inl hx)
          have hb4 := H3.out.2.2.2.mod hM4 HD.out.2.1
          have e40 : w4.cell? ⟨xb, 0, none⟩ = some (.slice va V.length vcap) := hb4.cell 0
          have e41 : w4.cell? ⟨xb, 1, none⟩ = some (.slice la s.cells.length lcap) := hb4.cell 1
          have f40 := hb4.frozen 0
          have f41 := hb4.frozen 1
          have e4l := hb4.lt
          have e42 : w4.cell? ⟨w.heap.size, 2, none⟩ = some (.int .u64 v) := ((HA.out.mod H3.out.1 (fun hk => by have := H.out.vals.lt hk; omega)).mod hM4 (fun hk => by have := H.out.live.lt hk; omega)).cell 2
          have q4' : ∀ k ∈ rb (.slice b2 (s.cells.length + 1) n2), k ∈ rb (.slice la s.cells.length lcap) ∨ w3.heap.size ≤ k := fun k hk => (q4 k hk).imp id (fun h => Nat.le_trans (show Mod [] w3 _ from by (repeat (first | (with_reducible refine Mod.drew ?_) | (with_reducible refine Mod.drewN ?_ _) | (with_reducible refine Mod.alloc ?_ _))); exact Mod.refl [] w3).size h)
          have H4 := Hidden.mk (And.intro hM4 (And.intro r4 (And.intro q4' hb4)))
          clear hM4 hb4 m4 r4 q4 q4'
          refine hK.out _ _ ⟨e40, e41, e42⟩ (fun hHeld => ?_)
          clear hK K
          (try simp only [Act.put, List.getElem_toArray, List.getElem_cons_zero, List.getElem_cons_succ, List.setIfInBounds_toArray, List.set_cons_zero, List.set_cons_succ])
          refine wpAnyU_free (by intro i hi; rw [show Region.ready _ _ _ = [16] from by kernel_rfl] at hi; simp at hi; subst hi; exact ⟨rfl, by decide⟩) ?_
          refine wpAny_take (i := 16) (v := ?v16_2) rfl (by kernel_rfl) (by kernel_rfl) (by kernel_rfl) (fun _ _ _ h => h) (Or.inl ⟨by rfl, ?h16_2⟩) ?r16_2
          case h16_2 =>
            intro w; go_simp
            all_goals (first | done | with_reducible rfl)
          (try simp only [Act.put, List.getElem_toArray, List.getElem_cons_zero, List.getElem_cons_succ, List.setIfInBounds_toArray, List.set_cons_zero, List.set_cons_succ])
          refine wpAny_take (i := 17) (v := ?v17_2) rfl (by kernel_rfl) (by kernel_rfl) (by kernel_rfl) (fun _ _ _ h => h) (Or.inl ⟨by rfl, ?h17_2⟩) ?r17_2
          case h17_2 =>
            intro w; go_simp
            all_goals (first | done | with_reducible rfl)
          (try simp only [Act.put, List.getElem_toArray, List.getElem_cons_zero, List.getElem_cons_succ, List.setIfInBounds_toArray, List.set_cons_zero, List.set_cons_succ])
          refine wpAny_ready (rs := [18]) (by kernel_rfl) (by simp) ?_
          refine AllReady.cons rfl (fun K hK => ?_) AllReady.nil
          go_simp
          refine hK _ _ ?_
          clear hK K
          (try simp only [Act.put, List.getElem_toArray, List.getElem_cons_zero, List.getElem_cons_succ, List.setIfInBounds_toArray, List.set_cons_zero, List.set_cons_succ])
          refine wpAny_take (i := 19) (v := ?v19_2) rfl (by kernel_rfl) (by kernel_rfl) (by kernel_rfl) (fun _ _ _ h => h) (Or.inl ⟨by rfl, ?h19_2⟩) ?r19_2
          case h19_2 =>
            intro w; go_simp
            all_goals (first | done | with_reducible rfl)
          (try simp only [Act.put, List.getElem_toArray, List.getElem_cons_zero, List.getElem_cons_succ, List.setIfInBounds_toArray, List.set_cons_zero, List.set_cons_succ])
          refine wpAny_take (i := 20) (v := ?v20_2) rfl (by kernel_rfl) (by kernel_rfl) (by kernel_rfl) (fun _ _ _ h => h) (Or.inl ⟨by rfl, ?h20_2⟩) ?r20_2
          case h20_2 =>
            intro w; go_simp
            all_goals (first | done | with_reducible rfl)
          (try simp only [Act.put, List.getElem_toArray, List.getElem_cons_zero, List.getElem_cons_succ, List.setIfInBounds_toArray, List.set_cons_zero, List.set_cons_succ])
          refine wpAny_ready (rs := [21]) (by kernel_rfl) (by simp) ?_
          refine AllReady.cons rfl (fun K hK => ?_) AllReady.nil
          go_simp
          refine hK _ _ ?_
          clear hK K
          (try simp only [Act.put, List.getElem_toArray, List.getElem_cons_zero, List.getElem_cons_succ, List.setIfInBounds_toArray, List.set_cons_zero, List.set_cons_succ])
          refine wpAny_done (by kernel_rfl) ?_ _
          go_wp2
          go_ret3
          obtain ⟨h, hmW, hvl, hf⟩ := HH.out
          obtain ⟨hM3, r3, q3, hb3⟩ := H3.out
          obtain ⟨hM4, r4, q4, hb4⟩ := H4.out
          have het : s.take v = { s with cells := s.cells ++ [some v] } := by unfold PS.take; rw [hf]; rfl
          have hl3 := h.live.mod hM3 HD.out.2.2
          have d1 := hl3.ty2 r3 (by decide)
          have hx1 : xb ∉ rb (.slice b1 (V.length + 1) n1) := r3.ty hb3 (by decide)
          have hx2 : xb ∉ rb (.slice b2 (s.cells.length + 1) n2) := r4.ty hb4 (by decide)
          have hxf : xb ∉ rb (.slice fa 0 fcap) := h.free.ty h.blk (by decide)
          have hfr : Row W 3 1 (.slice fa 0 fcap) 0 [] := by have := h.free; rw [hf] at this; exact this
          have hf3 := hfr.mod hM3 (h.vals.ty2 hfr (by decide))
          have hf4 := hf3.mod hM4 (hl3.ty2 hf3 (by decide))
          have hms := hmW.size
          have hm3s := hM3.size
          refine ⟨by show Ending.returned (.tuple #[.int .i64 ((V.length : Nat) : Int), .int .u64 0, .bool true]) = _; rw [hvl], _, V ++ [v], ⟨.slice b1 (V.length + 1) n1, .slice b2 (s.cells.length + 1) n2, .slice fa 0 fcap, rfl, ?_, ?_, ?_, ?_, PS.take_wf h.wf hl'.out _, by rw [het]; simp [hvl], ?_⟩, ?_, ?_⟩
          · rw [show (s.take v).limit = s.limit from by rw [het]]
            repeat (first | (with_reducible refine Blk.drew ?_) | (with_reducible refine Blk.drewN ?_ _))
            exact (hb4.set 0 _).set 1 _
          · rw [show (V ++ [v]).length = V.length + 1 from by simp, ← icells_snoc]
            repeat (first | (with_reducible refine Row.drew ?_) | (with_reducible refine Row.drewN ?_ _) | (with_reducible refine Row.far ?_ hx1 _))
            exact r3.mod hM4 d1
          · have e : bcells ((s.take v).cells.map Option.isSome) = bcells (s.cells.map Option.isSome) ++ [.bool true] := by rw [het]; simp [bcells]
            rw [e, show (s.take v).cells.length = s.cells.length + 1 from by rw [het]; simp]
            repeat (first | (with_reducible refine Row.drew ?_) | (with_reducible refine Row.drewN ?_ _) | (with_reducible refine Row.far ?_ hx2 _))
            exact r4
          · rw [show (s.take v).free = [] from by rw [het]; exact hf]
            repeat (first | (with_reducible refine Row.drew ?_) | (with_reducible refine Row.drewN ?_ _) | (with_reducible refine Row.far ?_ hxf _))
            exact hf4
          · intro j y hy
            rw [het] at hy
            simp only [List.getElem?_append] at hy ⊢
            split at hy
            · rename_i hj
              rw [if_pos (by omega)]; exact h.vget j y hy
            · rename_i hj
              rw [if_neg (by omega), hvl]
              cases hq : j - s.cells.length with
              | zero => rw [hq] at hy; simp at hy ⊢; exact hy
              | succ q => rw [hq] at hy; simp at hy
          · repeat (first | (with_reducible refine Mod.drew ?_) | (with_reducible refine Mod.drewN ?_ _) | ((with_reducible refine Mod.set ?_ ?_ _); rotate_left 1; (left; simp)))
            exact ((hmW.mono (by simp)).trans hM3 (fun x hx => .inl (by simp [hx]))).trans hM4 (fun x hx => .inl (by simp [hx]))
          · intro k hk
            simp only [List.mem_cons, List.mem_append] at hk ⊢
            rcases hk with hk | hk | hk | hk
            · exact .inl (.inl hk)
            · rcases q3 k hk with hk | hk
              · exact .inl (.inr (.inl hk))
              · right; omega
            · rcases q4 k hk with hk | hk
              · exact .inl (.inr (.inr (.inl hk)))
              · right; omega
            · exact .inl (.inr (.inr (.inr hk)))
        exact AllReadyU.nil
      exact AllReadyU.nil
    exact AllReadyU.nil
  refine AllReadyU.cons (i := 14) rfl (fun K hK => ?_) ?_
  · skip
    go_simp
    refine hK.out _ _ (by first | go_keep | (dsimp only; refine ⟨?_, ?_, ?_⟩ <;> go_keep)) (fun hHeld => ?_)
    clear hK K
    (try simp only [Act.put, List.getElem_toArray, List.getElem_cons_zero, List.getElem_cons_succ, List.setIfInBounds_toArray, List.set_cons_zero, List.set_cons_succ])
    refine wpAnyU_ready (rs := [8]) (by kernel_rfl) (by simp) ?_
    refine AllReadyU.cons (i := 8) rfl (fun K hK => ?_) ?_
    · skip
      go_simp
      refine hK.out _ _ (by first | go_keep | (dsimp only; refine ⟨?_, ?_, ?_⟩ <;> go_keep)) (fun hHeld => ?_)
      clear hK K
      (try simp only [Act.put, List.getElem_toArray, List.getElem_cons_zero, List.getElem_cons_succ, List.setIfInBounds_toArray, List.set_cons_zero, List.set_cons_succ])
      refine wpAnyU_ready (rs := [9]) (by kernel_rfl) (by simp) ?_
      refine AllReadyU.cons (i := 9) rfl (fun K hK => ?_) ?_
      · skip
        refine step_any rfl (.tmp 75) (.tmp 78) 45 rfl 22 (.int .u64 0) 1 8 (by kernel_rfl) ref04_u64 rfl (by decide) _ V.length (icells .u64 V) rfl (HH.out.1.vals.mod (S := []) (by (repeat (first | (with_reducible refine Mod.drew ?_) | (with_reducible refine Mod.drewN ?_ _) | (with_reducible refine Mod.alloc ?_ _))); exact Mod.refl [] W) (by simp)) _ 1 [.int .u64 v] rfl (holds_cell (by simp)) (by simp [Value.oneCell']) (by omega) (by omega) ?_
        intro b1 n1 w3 r3 m3 q3
        have hM3 := Mod.trans (Mod.mono (T := rb (.slice va V.length vcap)) (show Mod [] W _ from by (repeat (first | (with_reducible refine Mod.drew ?_) | (with_reducible refine Mod.drewN ?_ _) | (with_reducible refine Mod.alloc ?_ _))); exact Mod.refl [] W) (by simp)) m3 (fun x hx => .inl hx)
        have hb3 := HH.out.1.blk.mod hM3 HD.out.1
        have e30 : w3.cell? ⟨xb, 0, none⟩ = some (.slice va V.length vcap) := hb3.cell 0
        have e31 : w3.cell? ⟨xb, 1, none⟩ = some (.slice la s.cells.length lcap) := hb3.cell 1
        have e3l := hb3.lt
        have e32 : w3.cell? ⟨w.heap.size, 2, none⟩ = some (.int .u64 v) := (HA.out.mod hM3 (fun hk => by have := H.out.vals.lt hk; omega)).cell 2
        have q3' : ∀ k ∈ rb (.slice b1 (V.length + 1) n1), k ∈ rb (.slice va V.length vcap) ∨ W.heap.size ≤ k := fun k hk => (q3 k hk).imp id (fun h => Nat.le_trans (show Mod [] W _ from by (repeat (first | (with_reducible refine Mod.drew ?_) | (with_reducible refine Mod.drewN ?_ _) | (with_reducible refine Mod.alloc ?_ _))); exact Mod.refl [] W).size h)
        have E33 := Hidden.mk (fun q x (hq : q ∉ rb (.slice va V.length vcap)) hx => cell_modS m3 (q := q) (i := 0) (x := x) hq hx)
        have H3 := Hidden.mk (And.intro hM3 (And.intro r3 (And.intro q3' hb3)))
        clear hM3 hb3 m3 r3 q3 q3'
        refine hK.out _ _ ⟨e30, e31, e32⟩ (fun hHeld => ?_)
        clear hK K
        (try simp only [Act.put, List.getElem_toArray, List.getElem_cons_zero, List.getElem_cons_succ, List.setIfInBounds_toArray, List.set_cons_zero, List.set_cons_succ])
        refine wpAnyU_ready (rs := [15]) (by kernel_rfl) (by simp) ?_
        refine AllReadyU.cons (i := 15) rfl (fun K hK => ?_) ?_
        · skip
          refine step_any rfl (.tmp 83) (.tmp 84) 46 rfl 4 (.bool false) 1 1 (by kernel_rfl) ref04_bool rfl (by decide) _ s.cells.length (bcells (s.cells.map Option.isSome)) rfl (Row.mod (S := []) (HH.out.1.live.mod H3.out.1 HD.out.2.2) (by (repeat (first | (with_reducible refine Mod.drew ?_) | (with_reducible refine Mod.drewN ?_ _) | (with_reducible refine Mod.alloc ?_ _))); exact Mod.refl [] w3) (by simp)) _ 1 [.bool true] rfl (holds_cell (by first | (simp; done) | exact E33.out _ _ (fun hk => absurd (HV.out _ hk) (by first | omega | (simp; done) | (simp; omega))) (by simp))) (by simp [Value.oneCell']) (by omega) (by omega) ?_
          intro b2 n2 w4 r4 m4 q4
          have hM4 := Mod.trans (Mod.mono (T := rb (.slice la s.cells.length lcap)) (show Mod [] w3 _ from by (repeat (first | (with_reducible refine Mod.drew ?_) | (with_reducible refine Mod.drewN ?_ _) | (with_reducible refine Mod.alloc ?_ _))); exact Mod.refl [] w3) (by simp)) m4 (fun x hx => .inl hx)
          have hb4 := H3.out.2.2.2.mod hM4 HD.out.2.1
          have e40 : w4.cell? ⟨xb, 0, none⟩ = some (.slice va V.length vcap) := hb4.cell 0
          have e41 : w4.cell? ⟨xb, 1, none⟩ = some (.slice la s.cells.length lcap) := hb4.cell 1
          have f40 := hb4.frozen 0
          have f41 := hb4.frozen 1
          have e4l := hb4.lt
          have e42 : w4.cell? ⟨w.heap.size, 2, none⟩ = some (.int .u64 v) := ((HA.out.mod H3.out.1 (fun hk => by have := H.out.vals.lt hk; omega)).mod hM4 (fun hk => by have := H.out.live.lt hk; omega)).cell 2
          have q4' : ∀ k ∈ rb (.slice b2 (s.cells.length + 1) n2), k ∈ rb (.slice la s.cells.length lcap) ∨ w3.heap.size ≤ k := fun k hk => (q4 k hk).imp id (fun h => Nat.le_trans (show Mod [] w3 _ from by (repeat (first | (with_reducible refine Mod.drew ?_) | (with_reducible refine Mod.drewN ?_ _) | (with_reducible refine Mod.alloc ?_ _))); exact Mod.refl [] w3).size h)
          have H4 := Hidden.mk (And.intro hM4 (And.intro r4 (And.intro q4' hb4)))
          clear hM4 hb4 m4 r4 q4 q4'
          refine hK.out _ _ ⟨e40, e41, e42⟩ (fun hHeld => ?_)
          clear hK K
          (try simp only [Act.put, List.getElem_toArray, List.getElem_cons_zero, List.getElem_cons_succ, List.setIfInBounds_toArray, List.set_cons_zero, List.set_cons_succ])
          refine wpAnyU_free (by intro i hi; rw [show Region.ready _ _ _ = [16] from by kernel_rfl] at hi; simp at hi; subst hi; exact ⟨rfl, by decide⟩) ?_
          refine wpAny_take (i := 16) (v := ?v16_3) rfl (by kernel_rfl) (by kernel_rfl) (by kernel_rfl) (fun _ _ _ h => h) (Or.inl ⟨by rfl, ?h16_3⟩) ?r16_3
          case h16_3 =>
            intro w; go_simp
            all_goals (first | done | with_reducible rfl)
          (try simp only [Act.put, List.getElem_toArray, List.getElem_cons_zero, List.getElem_cons_succ, List.setIfInBounds_toArray, List.set_cons_zero, List.set_cons_succ])
          refine wpAny_take (i := 17) (v := ?v17_3) rfl (by kernel_rfl) (by kernel_rfl) (by kernel_rfl) (fun _ _ _ h => h) (Or.inl ⟨by rfl, ?h17_3⟩) ?r17_3
          case h17_3 =>
            intro w; go_simp
            all_goals (first | done | with_reducible rfl)
          (try simp only [Act.put, List.getElem_toArray, List.getElem_cons_zero, List.getElem_cons_succ, List.setIfInBounds_toArray, List.set_cons_zero, List.set_cons_succ])
          refine wpAny_ready (rs := [18]) (by kernel_rfl) (by simp) ?_
          refine AllReady.cons rfl (fun K hK => ?_) AllReady.nil
          go_simp
          refine hK _ _ ?_
          clear hK K
          (try simp only [Act.put, List.getElem_toArray, List.getElem_cons_zero, List.getElem_cons_succ, List.setIfInBounds_toArray, List.set_cons_zero, List.set_cons_succ])
          refine wpAny_take (i := 19) (v := ?v19_3) rfl (by kernel_rfl) (by kernel_rfl) (by kernel_rfl) (fun _ _ _ h => h) (Or.inl ⟨by rfl, ?h19_3⟩) ?r19_3
          case h19_3 =>
            intro w; go_simp
            all_goals (first | done | with_reducible rfl)
          (try simp only [Act.put, List.getElem_toArray, List.getElem_cons_zero, List.getElem_cons_succ, List.setIfInBounds_toArray, List.set_cons_zero, List.set_cons_succ])
          refine wpAny_take (i := 20) (v := ?v20_3) rfl (by kernel_rfl) (by kernel_rfl) (by kernel_rfl) (fun _ _ _ h => h) (Or.inl ⟨by rfl, ?h20_3⟩) ?r20_3
          case h20_3 =>
            intro w; go_simp
            all_goals (first | done | with_reducible rfl)
          (try simp only [Act.put, List.getElem_toArray, List.getElem_cons_zero, List.getElem_cons_succ, List.setIfInBounds_toArray, List.set_cons_zero, List.set_cons_succ])
          refine wpAny_ready (rs := [21]) (by kernel_rfl) (by simp) ?_
          refine AllReady.cons rfl (fun K hK => ?_) AllReady.nil
          go_simp
          refine hK _ _ ?_
          clear hK K
          (try simp only [Act.put, List.getElem_toArray, List.getElem_cons_zero, List.getElem_cons_succ, List.setIfInBounds_toArray, List.set_cons_zero, List.set_cons_succ])
          refine wpAny_done (by kernel_rfl) ?_ _
          go_wp2
          go_ret3
          obtain ⟨h, hmW, hvl, hf⟩ := HH.out
          obtain ⟨hM3, r3, q3, hb3⟩ := H3.out
          obtain ⟨hM4, r4, q4, hb4⟩ := H4.out
          have het : s.take v = { s with cells := s.cells ++ [some v] } := by unfold PS.take; rw [hf]; rfl
          have hl3 := h.live.mod hM3 HD.out.2.2
          have d1 := hl3.ty2 r3 (by decide)
          have hx1 : xb ∉ rb (.slice b1 (V.length + 1) n1) := r3.ty hb3 (by decide)
          have hx2 : xb ∉ rb (.slice b2 (s.cells.length + 1) n2) := r4.ty hb4 (by decide)
          have hxf : xb ∉ rb (.slice fa 0 fcap) := h.free.ty h.blk (by decide)
          have hfr : Row W 3 1 (.slice fa 0 fcap) 0 [] := by have := h.free; rw [hf] at this; exact this
          have hf3 := hfr.mod hM3 (h.vals.ty2 hfr (by decide))
          have hf4 := hf3.mod hM4 (hl3.ty2 hf3 (by decide))
          have hms := hmW.size
          have hm3s := hM3.size
          refine ⟨by show Ending.returned (.tuple #[.int .i64 ((V.length : Nat) : Int), .int .u64 0, .bool true]) = _; rw [hvl], _, V ++ [v], ⟨.slice b1 (V.length + 1) n1, .slice b2 (s.cells.length + 1) n2, .slice fa 0 fcap, rfl, ?_, ?_, ?_, ?_, PS.take_wf h.wf hl'.out _, by rw [het]; simp [hvl], ?_⟩, ?_, ?_⟩
          · rw [show (s.take v).limit = s.limit from by rw [het]]
            repeat (first | (with_reducible refine Blk.drew ?_) | (with_reducible refine Blk.drewN ?_ _))
            exact (hb4.set 0 _).set 1 _
          · rw [show (V ++ [v]).length = V.length + 1 from by simp, ← icells_snoc]
            repeat (first | (with_reducible refine Row.drew ?_) | (with_reducible refine Row.drewN ?_ _) | (with_reducible refine Row.far ?_ hx1 _))
            exact r3.mod hM4 d1
          · have e : bcells ((s.take v).cells.map Option.isSome) = bcells (s.cells.map Option.isSome) ++ [.bool true] := by rw [het]; simp [bcells]
            rw [e, show (s.take v).cells.length = s.cells.length + 1 from by rw [het]; simp]
            repeat (first | (with_reducible refine Row.drew ?_) | (with_reducible refine Row.drewN ?_ _) | (with_reducible refine Row.far ?_ hx2 _))
            exact r4
          · rw [show (s.take v).free = [] from by rw [het]; exact hf]
            repeat (first | (with_reducible refine Row.drew ?_) | (with_reducible refine Row.drewN ?_ _) | (with_reducible refine Row.far ?_ hxf _))
            exact hf4
          · intro j y hy
            rw [het] at hy
            simp only [List.getElem?_append] at hy ⊢
            split at hy
            · rename_i hj
              rw [if_pos (by omega)]; exact h.vget j y hy
            · rename_i hj
              rw [if_neg (by omega), hvl]
              cases hq : j - s.cells.length with
              | zero => rw [hq] at hy; simp at hy ⊢; exact hy
              | succ q => rw [hq] at hy; simp at hy
          · repeat (first | (with_reducible refine Mod.drew ?_) | (with_reducible refine Mod.drewN ?_ _) | ((with_reducible refine Mod.set ?_ ?_ _); rotate_left 1; (left; simp)))
            exact ((hmW.mono (by simp)).trans hM3 (fun x hx => .inl (by simp [hx]))).trans hM4 (fun x hx => .inl (by simp [hx]))
          · intro k hk
            simp only [List.mem_cons, List.mem_append] at hk ⊢
            rcases hk with hk | hk | hk | hk
            · exact .inl (.inl hk)
            · rcases q3 k hk with hk | hk
              · exact .inl (.inr (.inl hk))
              · right; omega
            · rcases q4 k hk with hk | hk
              · exact .inl (.inr (.inr (.inl hk)))
              · right; omega
            · exact .inl (.inr (.inr (.inr hk)))
        exact AllReadyU.nil
      exact AllReadyU.nil
    exact AllReadyU.nil
  exact AllReadyU.nil
end Go.Proofs.Ytnbanbfnabhjjaa
