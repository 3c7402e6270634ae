/- ref11.Do: an act on a list of keys. -/
import Derived.Test.YtfioekkegihkoaaGRef11
namespace Go.Proofs.Ytfioekkegihkoaa
open Go.RowKit
set_option linter.unusedVariables false
set_option linter.unusedSimpArgs false
/-- An act on a rising list: the list then, the answer. -/
def actL (l : List Int) (d k : Int) : List Int × Int × (Int × Bool) :=
  if d % 9 = 0 ∨ d % 9 = 1 then (if k ∈ l then (l, 4, 0, false) else (insL l k, 0, 0, false))
  else if d % 9 = 2 then (if k ∈ l then (delL l k, 0, 0, false) else (l, 3, 0, false))
  else if d % 9 = 3 then (l, 0, 0, decide (k ∈ l))
  else if d % 9 = 4 then (l, 0, selL l (rk l k))
  else if d % 9 = 5 then (l, 0, prevL64 l k)
  else if d % 9 = 6 then (l, 0, selL l (rk l 0))
  else if d % 9 = 7 then (l, 0, prevL64 l 18446744073709551615)
  else ([], 0, 0, false)
abbrev ansV (x : Int × (Int × Bool)) : Value := .agg #[.int .i64 x.1, .int .u64 x.2.1, .bool x.2.2]
theorem delL_len {l : List Int} {t : Int} (ht : t ∈ l) (hl : l.Pairwise (· < ·)) : (delL l t).length + 1 = l.length := by
  have h1 := ((mem_rk (rises_le hl)).1 ht).1
  unfold delL; simp; omega
theorem newOf {k : IntKind} {w' : World} {v : Value} {l' : List Int} {a : Option Addr} {n c m : Nat} (h : ISl k w' v l') (hg : v = .slice a n c ∨ ∀ b ∈ rb v, m ≤ b) (hn : l'.length ≠ n) : ∀ b ∈ rb v, m ≤ b := by
  rcases hg with rfl | hg
  · exact absurd h.len hn
  · exact hg
def Done11 (w : World) (v : Value) (r : List Int × Int × (Int × Bool)) (e : Ending) (w' : World) : Prop := ∃ v', e = .returned (.tuple #[v', ansV r.2]) ∧ ISl .u64 w' v' r.1 ∧ Mod [] w w' ∧ (v' = v ∨ ∀ b ∈ rb v', w.heap.size ≤ b)

set_option maxHeartbeats 4000000 in
set_option maxRecDepth 100000 in
theorem do11_add_no0 {w : World} {v : Value} {l : List Int} (d k : Int) (h : ISl .u64 w v l) (hl : l.length ≤ 100000) (hs : l.Pairwise (· < ·)) (hd : 0 ≤ d ∧ d ≤ 255) (hm : d % 9 = 0) (hk : k ∈ l) :
    Calls Try.prog 47 #[v, .agg #[.int .u8 d, .int .u64 k]] w (Done11 w v (l, 4, 0, false)) := by
  obtain ⟨pa, cap, rfl, -⟩ := h.slice_
  have HF := Hidden.mk (fun W (hW : Mod [] w W) => find11 k (h.news hW) (by omega) (rises_le hs))
  have H := Hidden.mk (And.intro h (And.intro hl hs))
  obtain ⟨hd0, hd1⟩ := hd
  obtain ⟨W0, hW0⟩ : ∃ W0, (w.alloc (.cells #[.int .u8 d, .int .u64 k] 70)).alloc (.cells #[.int .i64 0, .int .u64 0, .bool false] 72) = W0 := ⟨_, rfl⟩
  have hM0 : Mod [] w W0 := by rw [← hW0]; exact ((Mod.refl [] w).alloc _).alloc _
  have hs0 : W0.heap.size = w.heap.size + 2 := by rw [← hW0]; simp
  have hact : Blk W0 w.heap.size 70 #[.int .u8 d, .int .u64 k] := by rw [← hW0]; exact (Blk.new w _ _).alloc _
  have hans : Blk W0 (w.heap.size + 1) 72 #[.int .i64 0, .int .u64 0, .bool false] := by rw [← hW0]; exact Blk.new' (by simp) _ _
  have c0 : W0.cell? ⟨w.heap.size, 0, none⟩ = some (.int .u8 d) := hact.cell 0
  have c1 : W0.cell? ⟨w.heap.size, 1, none⟩ = some (.int .u64 k) := hact.cell 1
  have r0 : W0.cell? ⟨w.heap.size + 1, 0, none⟩ = some (.int .i64 0) := hans.cell 0
  have r1 : W0.cell? ⟨w.heap.size + 1, 1, none⟩ = some (.int .u64 0) := hans.cell 1
  have r2 : W0.cell? ⟨w.heap.size + 1, 2, none⟩ = some (.bool false) := hans.cell 2
  have hfr := hans.frozen 0
  have HM0 := Hidden.mk (And.intro hM0 hW0)
  have hfd := HF.out W0 hM0
  have HA := Hidden.mk (And.intro hact hans)
  clear h hl hs hM0 hact hans HF
  go_enter Try.func47, Try.ntmps47
  go_wp2_with fail
  refine hfd.mono ?_; rintro e w1 ⟨rfl, q, rfl⟩
  obtain ⟨W1, hW1⟩ : ∃ W1, (W0.drewN q).alloc (.cells #[.int .i64 0, .int .u64 0, .bool false] 72) = W1 := ⟨_, rfl⟩
  have hM1 : Mod [] W0 W1 := by rw [← hW1]; exact ((Mod.refl [] W0).drewN q).alloc _
  have hs1 : W1.heap.size = w.heap.size + 3 := by rw [← hW1]; simp [hs0]
  have hx : Blk W1 (w.heap.size + 2) 72 #[.int .i64 0, .int .u64 0, .bool false] := by rw [← hW1]; exact Blk.new' (by simp [hs0]) _ _
  have B := Hidden.mk (And.intro (HM0.out.1.trans hM1 (by simp)) (And.intro (HA.out.1.mod hM1 (by simp)) (And.intro (HA.out.2.mod hM1 (by simp)) hx)))
  clear c0 c1 r0 r1 r2 hfr
  have c0 : W1.cell? ⟨w.heap.size, 0, none⟩ = some (.int .u8 d) := B.out.2.1.cell 0
  have c1 : W1.cell? ⟨w.heap.size, 1, none⟩ = some (.int .u64 k) := B.out.2.1.cell 1
  have r0 : W1.cell? ⟨w.heap.size + 1, 0, none⟩ = some (.int .i64 0) := B.out.2.2.1.cell 0
  have r1 : W1.cell? ⟨w.heap.size + 1, 1, none⟩ = some (.int .u64 0) := B.out.2.2.1.cell 1
  have r2 : W1.cell? ⟨w.heap.size + 1, 2, none⟩ = some (.bool false) := B.out.2.2.1.cell 2
  have x0 : W1.cell? ⟨w.heap.size + 2, 0, none⟩ = some (.int .i64 0) := B.out.2.2.2.cell 0
  have x1 : W1.cell? ⟨w.heap.size + 2, 1, none⟩ = some (.int .u64 0) := B.out.2.2.2.cell 1
  have x2 : W1.cell? ⟨w.heap.size + 2, 2, none⟩ = some (.bool false) := B.out.2.2.2.cell 2
  have hfr0 := B.out.2.2.1.frozen 0
  have hfr1 := B.out.2.2.1.frozen 1
  have hfr2 := B.out.2.2.1.frozen 2
  have hfx0 := B.out.2.2.2.frozen 0
  have hfx1 := B.out.2.2.2.frozen 1
  have hfx2 := B.out.2.2.2.frozen 2
  clear hM1 hx
  rw [decide_eq_true hk]; clear hk

  go_wp2_with fail
  have H1 := Hidden.mk (And.intro H.out.1 B.out.1)
  refine bodyPost_ret (v := .tuple #[.slice pa l.length cap, ansV (4, 0, false)]) (by simp [results, Try.results47, go_sem, r0, r1, r2, x0, x1, x2]) rfl ⟨_, rfl, H.out.1.news (by repeat (first | with_reducible exact B.out.1 | with_reducible exact HB5.out | with_reducible refine Mod.set ?_ (.inr (Nat.le_add_right _ _)) _ | with_reducible refine Mod.drewN ?_ _ | with_reducible refine Mod.drew ?_)), ?_, .inl rfl⟩
  repeat (first | with_reducible exact B.out.1 | with_reducible exact HB5.out | with_reducible refine Mod.set ?_ (.inr (Nat.le_add_right _ _)) _ | with_reducible refine Mod.drewN ?_ _ | with_reducible refine Mod.drew ?_)

set_option maxHeartbeats 4000000 in
set_option maxRecDepth 100000 in
theorem do11_add_no1 {w : World} {v : Value} {l : List Int} (d k : Int) (h : ISl .u64 w v l) (hl : l.length ≤ 100000) (hs : l.Pairwise (· < ·)) (hd : 0 ≤ d ∧ d ≤ 255) (hm : d % 9 = 1) (hk : k ∈ l) :
    Calls Try.prog 47 #[v, .agg #[.int .u8 d, .int .u64 k]] w (Done11 w v (l, 4, 0, false)) := by
  obtain ⟨pa, cap, rfl, -⟩ := h.slice_
  have HF := Hidden.mk (fun W (hW : Mod [] w W) => find11 k (h.news hW) (by omega) (rises_le hs))
  have H := Hidden.mk (And.intro h (And.intro hl hs))
  obtain ⟨hd0, hd1⟩ := hd
  obtain ⟨W0, hW0⟩ : ∃ W0, (w.alloc (.cells #[.int .u8 d, .int .u64 k] 70)).alloc (.cells #[.int .i64 0, .int .u64 0, .bool false] 72) = W0 := ⟨_, rfl⟩
  have hM0 : Mod [] w W0 := by rw [← hW0]; exact ((Mod.refl [] w).alloc _).alloc _
  have hs0 : W0.heap.size = w.heap.size + 2 := by rw [← hW0]; simp
  have hact : Blk W0 w.heap.size 70 #[.int .u8 d, .int .u64 k] := by rw [← hW0]; exact (Blk.new w _ _).alloc _
  have hans : Blk W0 (w.heap.size + 1) 72 #[.int .i64 0, .int .u64 0, .bool false] := by rw [← hW0]; exact Blk.new' (by simp) _ _
  have c0 : W0.cell? ⟨w.heap.size, 0, none⟩ = some (.int .u8 d) := hact.cell 0
  have c1 : W0.cell? ⟨w.heap.size, 1, none⟩ = some (.int .u64 k) := hact.cell 1
  have r0 : W0.cell? ⟨w.heap.size + 1, 0, none⟩ = some (.int .i64 0) := hans.cell 0
  have r1 : W0.cell? ⟨w.heap.size + 1, 1, none⟩ = some (.int .u64 0) := hans.cell 1
  have r2 : W0.cell? ⟨w.heap.size + 1, 2, none⟩ = some (.bool false) := hans.cell 2
  have hfr := hans.frozen 0
  have HM0 := Hidden.mk (And.intro hM0 hW0)
  have hfd := HF.out W0 hM0
  have HA := Hidden.mk (And.intro hact hans)
  clear h hl hs hM0 hact hans HF
  go_enter Try.func47, Try.ntmps47
  go_wp2_with fail
  refine hfd.mono ?_; rintro e w1 ⟨rfl, q, rfl⟩
  obtain ⟨W1, hW1⟩ : ∃ W1, (W0.drewN q).alloc (.cells #[.int .i64 0, .int .u64 0, .bool false] 72) = W1 := ⟨_, rfl⟩
  have hM1 : Mod [] W0 W1 := by rw [← hW1]; exact ((Mod.refl [] W0).drewN q).alloc _
  have hs1 : W1.heap.size = w.heap.size + 3 := by rw [← hW1]; simp [hs0]
  have hx : Blk W1 (w.heap.size + 2) 72 #[.int .i64 0, .int .u64 0, .bool false] := by rw [← hW1]; exact Blk.new' (by simp [hs0]) _ _
  have B := Hidden.mk (And.intro (HM0.out.1.trans hM1 (by simp)) (And.intro (HA.out.1.mod hM1 (by simp)) (And.intro (HA.out.2.mod hM1 (by simp)) hx)))
  clear c0 c1 r0 r1 r2 hfr
  have c0 : W1.cell? ⟨w.heap.size, 0, none⟩ = some (.int .u8 d) := B.out.2.1.cell 0
  have c1 : W1.cell? ⟨w.heap.size, 1, none⟩ = some (.int .u64 k) := B.out.2.1.cell 1
  have r0 : W1.cell? ⟨w.heap.size + 1, 0, none⟩ = some (.int .i64 0) := B.out.2.2.1.cell 0
  have r1 : W1.cell? ⟨w.heap.size + 1, 1, none⟩ = some (.int .u64 0) := B.out.2.2.1.cell 1
  have r2 : W1.cell? ⟨w.heap.size + 1, 2, none⟩ = some (.bool false) := B.out.2.2.1.cell 2
  have x0 : W1.cell? ⟨w.heap.size + 2, 0, none⟩ = some (.int .i64 0) := B.out.2.2.2.cell 0
  have x1 : W1.cell? ⟨w.heap.size + 2, 1, none⟩ = some (.int .u64 0) := B.out.2.2.2.cell 1
  have x2 : W1.cell? ⟨w.heap.size + 2, 2, none⟩ = some (.bool false) := B.out.2.2.2.cell 2
  have hfr0 := B.out.2.2.1.frozen 0
  have hfr1 := B.out.2.2.1.frozen 1
  have hfr2 := B.out.2.2.1.frozen 2
  have hfx0 := B.out.2.2.2.frozen 0
  have hfx1 := B.out.2.2.2.frozen 1
  have hfx2 := B.out.2.2.2.frozen 2
  clear hM1 hx
  rw [decide_eq_true hk]; clear hk

  go_wp2_with fail
  have H1 := Hidden.mk (And.intro H.out.1 B.out.1)
  refine bodyPost_ret (v := .tuple #[.slice pa l.length cap, ansV (4, 0, false)]) (by simp [results, Try.results47, go_sem, r0, r1, r2, x0, x1, x2]) rfl ⟨_, rfl, H.out.1.news (by repeat (first | with_reducible exact B.out.1 | with_reducible exact HB5.out | with_reducible refine Mod.set ?_ (.inr (Nat.le_add_right _ _)) _ | with_reducible refine Mod.drewN ?_ _ | with_reducible refine Mod.drew ?_)), ?_, .inl rfl⟩
  repeat (first | with_reducible exact B.out.1 | with_reducible exact HB5.out | with_reducible refine Mod.set ?_ (.inr (Nat.le_add_right _ _)) _ | with_reducible refine Mod.drewN ?_ _ | with_reducible refine Mod.drew ?_)

set_option maxHeartbeats 4000000 in
set_option maxRecDepth 100000 in
theorem do11_drop_no {w : World} {v : Value} {l : List Int} (d k : Int) (h : ISl .u64 w v l) (hl : l.length ≤ 100000) (hs : l.Pairwise (· < ·)) (hd : 0 ≤ d ∧ d ≤ 255) (hm : d % 9 = 2) (hk : k ∉ l) :
    Calls Try.prog 47 #[v, .agg #[.int .u8 d, .int .u64 k]] w (Done11 w v (l, 3, 0, false)) := by
  obtain ⟨pa, cap, rfl, -⟩ := h.slice_
  have HF := Hidden.mk (fun W (hW : Mod [] w W) => find11 k (h.news hW) (by omega) (rises_le hs))
  have H := Hidden.mk (And.intro h (And.intro hl hs))
  obtain ⟨hd0, hd1⟩ := hd
  obtain ⟨W0, hW0⟩ : ∃ W0, (w.alloc (.cells #[.int .u8 d, .int .u64 k] 70)).alloc (.cells #[.int .i64 0, .int .u64 0, .bool false] 72) = W0 := ⟨_, rfl⟩
  have hM0 : Mod [] w W0 := by rw [← hW0]; exact ((Mod.refl [] w).alloc _).alloc _
  have hs0 : W0.heap.size = w.heap.size + 2 := by rw [← hW0]; simp
  have hact : Blk W0 w.heap.size 70 #[.int .u8 d, .int .u64 k] := by rw [← hW0]; exact (Blk.new w _ _).alloc _
  have hans : Blk W0 (w.heap.size + 1) 72 #[.int .i64 0, .int .u64 0, .bool false] := by rw [← hW0]; exact Blk.new' (by simp) _ _
  have c0 : W0.cell? ⟨w.heap.size, 0, none⟩ = some (.int .u8 d) := hact.cell 0
  have c1 : W0.cell? ⟨w.heap.size, 1, none⟩ = some (.int .u64 k) := hact.cell 1
  have r0 : W0.cell? ⟨w.heap.size + 1, 0, none⟩ = some (.int .i64 0) := hans.cell 0
  have r1 : W0.cell? ⟨w.heap.size + 1, 1, none⟩ = some (.int .u64 0) := hans.cell 1
  have r2 : W0.cell? ⟨w.heap.size + 1, 2, none⟩ = some (.bool false) := hans.cell 2
  have hfr := hans.frozen 0
  have HM0 := Hidden.mk (And.intro hM0 hW0)
  have hfd := HF.out W0 hM0
  have HA := Hidden.mk (And.intro hact hans)
  clear h hl hs hM0 hact hans HF
  go_enter Try.func47, Try.ntmps47
  go_wp2_with fail
  refine hfd.mono ?_; rintro e w1 ⟨rfl, q, rfl⟩
  obtain ⟨W1, hW1⟩ : ∃ W1, (W0.drewN q).alloc (.cells #[.int .i64 0, .int .u64 0, .bool false] 72) = W1 := ⟨_, rfl⟩
  have hM1 : Mod [] W0 W1 := by rw [← hW1]; exact ((Mod.refl [] W0).drewN q).alloc _
  have hs1 : W1.heap.size = w.heap.size + 3 := by rw [← hW1]; simp [hs0]
  have hx : Blk W1 (w.heap.size + 2) 72 #[.int .i64 0, .int .u64 0, .bool false] := by rw [← hW1]; exact Blk.new' (by simp [hs0]) _ _
  have B := Hidden.mk (And.intro (HM0.out.1.trans hM1 (by simp)) (And.intro (HA.out.1.mod hM1 (by simp)) (And.intro (HA.out.2.mod hM1 (by simp)) hx)))
  clear c0 c1 r0 r1 r2 hfr
  have c0 : W1.cell? ⟨w.heap.size, 0, none⟩ = some (.int .u8 d) := B.out.2.1.cell 0
  have c1 : W1.cell? ⟨w.heap.size, 1, none⟩ = some (.int .u64 k) := B.out.2.1.cell 1
  have r0 : W1.cell? ⟨w.heap.size + 1, 0, none⟩ = some (.int .i64 0) := B.out.2.2.1.cell 0
  have r1 : W1.cell? ⟨w.heap.size + 1, 1, none⟩ = some (.int .u64 0) := B.out.2.2.1.cell 1
  have r2 : W1.cell? ⟨w.heap.size + 1, 2, none⟩ = some (.bool false) := B.out.2.2.1.cell 2
  have x0 : W1.cell? ⟨w.heap.size + 2, 0, none⟩ = some (.int .i64 0) := B.out.2.2.2.cell 0
  have x1 : W1.cell? ⟨w.heap.size + 2, 1, none⟩ = some (.int .u64 0) := B.out.2.2.2.cell 1
  have x2 : W1.cell? ⟨w.heap.size + 2, 2, none⟩ = some (.bool false) := B.out.2.2.2.cell 2
  have hfr0 := B.out.2.2.1.frozen 0
  have hfr1 := B.out.2.2.1.frozen 1
  have hfr2 := B.out.2.2.1.frozen 2
  have hfx0 := B.out.2.2.2.frozen 0
  have hfx1 := B.out.2.2.2.frozen 1
  have hfx2 := B.out.2.2.2.frozen 2
  clear hM1 hx
  rw [decide_eq_false hk]; clear hk

  go_wp2_with fail
  have H1 := Hidden.mk (And.intro H.out.1 B.out.1)
  refine bodyPost_ret (v := .tuple #[.slice pa l.length cap, ansV (3, 0, false)]) (by simp [results, Try.results47, go_sem, r0, r1, r2, x0, x1, x2]) rfl ⟨_, rfl, H.out.1.news (by repeat (first | with_reducible exact B.out.1 | with_reducible exact HB5.out | with_reducible refine Mod.set ?_ (.inr (Nat.le_add_right _ _)) _ | with_reducible refine Mod.drewN ?_ _ | with_reducible refine Mod.drew ?_)), ?_, .inl rfl⟩
  repeat (first | with_reducible exact B.out.1 | with_reducible exact HB5.out | with_reducible refine Mod.set ?_ (.inr (Nat.le_add_right _ _)) _ | with_reducible refine Mod.drewN ?_ _ | with_reducible refine Mod.drew ?_)

set_option maxHeartbeats 4000000 in
set_option maxRecDepth 100000 in
theorem do11_has {w : World} {v : Value} {l : List Int} (d k : Int) (h : ISl .u64 w v l) (hl : l.length ≤ 100000) (hs : l.Pairwise (· < ·)) (hd : 0 ≤ d ∧ d ≤ 255) (hm : d % 9 = 3) (b : Bool) (hb : decide (k ∈ l) = b) :
    Calls Try.prog 47 #[v, .agg #[.int .u8 d, .int .u64 k]] w (Done11 w v (l, 0, 0, b)) := by
  obtain ⟨pa, cap, rfl, -⟩ := h.slice_
  have HF := Hidden.mk (fun W (hW : Mod [] w W) => find11 k (h.news hW) (by omega) (rises_le hs))
  have H := Hidden.mk (And.intro h (And.intro hl hs))
  obtain ⟨hd0, hd1⟩ := hd
  obtain ⟨W0, hW0⟩ : ∃ W0, (w.alloc (.cells #[.int .u8 d, .int .u64 k] 70)).alloc (.cells #[.int .i64 0, .int .u64 0, .bool false] 72) = W0 := ⟨_, rfl⟩
  have hM0 : Mod [] w W0 := by rw [← hW0]; exact ((Mod.refl [] w).alloc _).alloc _
  have hs0 : W0.heap.size = w.heap.size + 2 := by rw [← hW0]; simp
  have hact : Blk W0 w.heap.size 70 #[.int .u8 d, .int .u64 k] := by rw [← hW0]; exact (Blk.new w _ _).alloc _
  have hans : Blk W0 (w.heap.size + 1) 72 #[.int .i64 0, .int .u64 0, .bool false] := by rw [← hW0]; exact Blk.new' (by simp) _ _
  have c0 : W0.cell? ⟨w.heap.size, 0, none⟩ = some (.int .u8 d) := hact.cell 0
  have c1 : W0.cell? ⟨w.heap.size, 1, none⟩ = some (.int .u64 k) := hact.cell 1
  have r0 : W0.cell? ⟨w.heap.size + 1, 0, none⟩ = some (.int .i64 0) := hans.cell 0
  have r1 : W0.cell? ⟨w.heap.size + 1, 1, none⟩ = some (.int .u64 0) := hans.cell 1
  have r2 : W0.cell? ⟨w.heap.size + 1, 2, none⟩ = some (.bool false) := hans.cell 2
  have hfr := hans.frozen 0
  have HM0 := Hidden.mk (And.intro hM0 hW0)
  have hfd := HF.out W0 hM0
  have HA := Hidden.mk (And.intro hact hans)
  clear h hl hs hM0 hact hans HF
  go_enter Try.func47, Try.ntmps47
  go_wp2_with fail
  refine hfd.mono ?_; rintro e w1 ⟨rfl, q, rfl⟩
  obtain ⟨W1, hW1⟩ : ∃ W1, (W0.drewN q).alloc (.cells #[.int .i64 0, .int .u64 0, .bool false] 72) = W1 := ⟨_, rfl⟩
  have hM1 : Mod [] W0 W1 := by rw [← hW1]; exact ((Mod.refl [] W0).drewN q).alloc _
  have hs1 : W1.heap.size = w.heap.size + 3 := by rw [← hW1]; simp [hs0]
  have hx : Blk W1 (w.heap.size + 2) 72 #[.int .i64 0, .int .u64 0, .bool false] := by rw [← hW1]; exact Blk.new' (by simp [hs0]) _ _
  have B := Hidden.mk (And.intro (HM0.out.1.trans hM1 (by simp)) (And.intro (HA.out.1.mod hM1 (by simp)) (And.intro (HA.out.2.mod hM1 (by simp)) hx)))
  clear c0 c1 r0 r1 r2 hfr
  have c0 : W1.cell? ⟨w.heap.size, 0, none⟩ = some (.int .u8 d) := B.out.2.1.cell 0
  have c1 : W1.cell? ⟨w.heap.size, 1, none⟩ = some (.int .u64 k) := B.out.2.1.cell 1
  have r0 : W1.cell? ⟨w.heap.size + 1, 0, none⟩ = some (.int .i64 0) := B.out.2.2.1.cell 0
  have r1 : W1.cell? ⟨w.heap.size + 1, 1, none⟩ = some (.int .u64 0) := B.out.2.2.1.cell 1
  have r2 : W1.cell? ⟨w.heap.size + 1, 2, none⟩ = some (.bool false) := B.out.2.2.1.cell 2
  have x0 : W1.cell? ⟨w.heap.size + 2, 0, none⟩ = some (.int .i64 0) := B.out.2.2.2.cell 0
  have x1 : W1.cell? ⟨w.heap.size + 2, 1, none⟩ = some (.int .u64 0) := B.out.2.2.2.cell 1
  have x2 : W1.cell? ⟨w.heap.size + 2, 2, none⟩ = some (.bool false) := B.out.2.2.2.cell 2
  have hfr0 := B.out.2.2.1.frozen 0
  have hfr1 := B.out.2.2.1.frozen 1
  have hfr2 := B.out.2.2.1.frozen 2
  have hfx0 := B.out.2.2.2.frozen 0
  have hfx1 := B.out.2.2.2.frozen 1
  have hfx2 := B.out.2.2.2.frozen 2
  clear hM1 hx
  rw [hb]; clear hb

  go_wp2_with fail
  obtain ⟨W5, hW5⟩ : ∃ W5, (((W1.setCell ⟨w.heap.size + 2, 0, none⟩ (.int .i64 0)).setCell ⟨w.heap.size + 2, 1, none⟩ (.int .u64 0)).setCell ⟨w.heap.size + 2, 2, none⟩ (.bool false)).setCell ⟨w.heap.size + 2, 2, none⟩ (.bool b) = W5 := ⟨_, rfl⟩
  have hx5 : Blk W5 (w.heap.size + 2) 72 #[.int .i64 0, .int .u64 0, .bool b] := by rw [← hW5]; simpa using (((B.out.2.2.2.set 0 (.int .i64 0)).set 1 (.int .u64 0)).set 2 (.bool false)).set 2 (.bool b)
  have hr5 : Blk W5 (w.heap.size + 1) 72 #[.int .i64 0, .int .u64 0, .bool false] := by rw [← hW5]; exact (((B.out.2.2.1.far (by show w.heap.size + 1 ≠ w.heap.size + 2; omega) _).far (by show w.heap.size + 1 ≠ w.heap.size + 2; omega) _).far (by show w.heap.size + 1 ≠ w.heap.size + 2; omega) _).far (by show w.heap.size + 1 ≠ w.heap.size + 2; omega) _
  have hM5 : Mod [] w W5 := by
    rw [← hW5]
    repeat (first | with_reducible exact B.out.1 | with_reducible refine Mod.set ?_ (.inr (Nat.le_add_right _ _)) _ | with_reducible refine Mod.drewN ?_ _ | with_reducible refine Mod.drew ?_)
  clear c0 c1 r0 r1 r2 x0 x1 x2 hfr0 hfr1 hfr2 hfx0 hfx1 hfx2
  have r0 : W5.cell? ⟨w.heap.size + 1, 0, none⟩ = some (.int .i64 0) := hr5.cell 0
  have r1 : W5.cell? ⟨w.heap.size + 1, 1, none⟩ = some (.int .u64 0) := hr5.cell 1
  have r2 : W5.cell? ⟨w.heap.size + 1, 2, none⟩ = some (.bool false) := hr5.cell 2
  have x0 : W5.cell? ⟨w.heap.size + 2, 0, none⟩ = some (.int .i64 0) := hx5.cell 0
  have x1 : W5.cell? ⟨w.heap.size + 2, 1, none⟩ = some (.int .u64 0) := hx5.cell 1
  have x2 : W5.cell? ⟨w.heap.size + 2, 2, none⟩ = some (.bool b) := hx5.cell 2
  have hfr0 := hr5.frozen 0
  have hfr1 := hr5.frozen 1
  have hfr2 := hr5.frozen 2
  have hM5 := Hidden.mk hM5
  clear hx5 hr5

  go_wp2_with fail
  (try go_region)
  all_goals go_wp2_with fail
  all_goals
    (try simp only [Exit.inBlock, Exit.then])
    refine bodyPost_ret (v := .tuple #[.slice pa l.length cap, ansV (0, 0, b)]) (by simp [results, Try.results47, go_sem, r0, r1, r2, x0, x1, x2]) rfl ⟨_, rfl, H.out.1.news (by repeat (first | with_reducible exact hM5.out | with_reducible exact hM5.out | with_reducible refine Mod.set ?_ (.inr (Nat.le_add_right _ _)) _ | with_reducible refine Mod.drewN ?_ _ | with_reducible refine Mod.drew ?_)), ?_, .inl rfl⟩
    repeat (first | with_reducible exact hM5.out | with_reducible refine Mod.set ?_ (.inr (Nat.le_add_right _ _)) _ | with_reducible refine Mod.drewN ?_ _ | with_reducible refine Mod.drew ?_)

set_option maxHeartbeats 4000000 in
set_option maxRecDepth 100000 in
theorem do11_next {w : World} {v : Value} {l : List Int} (d k : Int) (h : ISl .u64 w v l) (hl : l.length ≤ 100000) (hs : l.Pairwise (· < ·)) (hd : 0 ≤ d ∧ d ≤ 255) (hm : d % 9 = 4) (ra : Int) (rc : Bool) (hr : selL l (rk l k) = (ra, rc)) :
    Calls Try.prog 47 #[v, .agg #[.int .u8 d, .int .u64 k]] w (Done11 w v (l, 0, ra, rc)) := by
  obtain ⟨pa, cap, rfl, -⟩ := h.slice_
  have HF := Hidden.mk (fun W (hW : Mod [] w W) => find11 k (h.news hW) (by omega) (rises_le hs))
  have H := Hidden.mk (And.intro h (And.intro hl hs))
  obtain ⟨hd0, hd1⟩ := hd
  obtain ⟨W0, hW0⟩ : ∃ W0, (w.alloc (.cells #[.int .u8 d, .int .u64 k] 70)).alloc (.cells #[.int .i64 0, .int .u64 0, .bool false] 72) = W0 := ⟨_, rfl⟩
  have hM0 : Mod [] w W0 := by rw [← hW0]; exact ((Mod.refl [] w).alloc _).alloc _
  have hs0 : W0.heap.size = w.heap.size + 2 := by rw [← hW0]; simp
  have hact : Blk W0 w.heap.size 70 #[.int .u8 d, .int .u64 k] := by rw [← hW0]; exact (Blk.new w _ _).alloc _
  have hans : Blk W0 (w.heap.size + 1) 72 #[.int .i64 0, .int .u64 0, .bool false] := by rw [← hW0]; exact Blk.new' (by simp) _ _
  have c0 : W0.cell? ⟨w.heap.size, 0, none⟩ = some (.int .u8 d) := hact.cell 0
  have c1 : W0.cell? ⟨w.heap.size, 1, none⟩ = some (.int .u64 k) := hact.cell 1
  have r0 : W0.cell? ⟨w.heap.size + 1, 0, none⟩ = some (.int .i64 0) := hans.cell 0
  have r1 : W0.cell? ⟨w.heap.size + 1, 1, none⟩ = some (.int .u64 0) := hans.cell 1
  have r2 : W0.cell? ⟨w.heap.size + 1, 2, none⟩ = some (.bool false) := hans.cell 2
  have hfr := hans.frozen 0
  have HM0 := Hidden.mk (And.intro hM0 hW0)
  have hfd := HF.out W0 hM0
  have HA := Hidden.mk (And.intro hact hans)
  clear h hl hs hM0 hact hans HF
  go_enter Try.func47, Try.ntmps47
  go_wp2_with fail
  refine hfd.mono ?_; rintro e w1 ⟨rfl, q, rfl⟩
  obtain ⟨W1, hW1⟩ : ∃ W1, (W0.drewN q).alloc (.cells #[.int .i64 0, .int .u64 0, .bool false] 72) = W1 := ⟨_, rfl⟩
  have hM1 : Mod [] W0 W1 := by rw [← hW1]; exact ((Mod.refl [] W0).drewN q).alloc _
  have hs1 : W1.heap.size = w.heap.size + 3 := by rw [← hW1]; simp [hs0]
  have hx : Blk W1 (w.heap.size + 2) 72 #[.int .i64 0, .int .u64 0, .bool false] := by rw [← hW1]; exact Blk.new' (by simp [hs0]) _ _
  have B := Hidden.mk (And.intro (HM0.out.1.trans hM1 (by simp)) (And.intro (HA.out.1.mod hM1 (by simp)) (And.intro (HA.out.2.mod hM1 (by simp)) hx)))
  clear c0 c1 r0 r1 r2 hfr
  have c0 : W1.cell? ⟨w.heap.size, 0, none⟩ = some (.int .u8 d) := B.out.2.1.cell 0
  have c1 : W1.cell? ⟨w.heap.size, 1, none⟩ = some (.int .u64 k) := B.out.2.1.cell 1
  have r0 : W1.cell? ⟨w.heap.size + 1, 0, none⟩ = some (.int .i64 0) := B.out.2.2.1.cell 0
  have r1 : W1.cell? ⟨w.heap.size + 1, 1, none⟩ = some (.int .u64 0) := B.out.2.2.1.cell 1
  have r2 : W1.cell? ⟨w.heap.size + 1, 2, none⟩ = some (.bool false) := B.out.2.2.1.cell 2
  have x0 : W1.cell? ⟨w.heap.size + 2, 0, none⟩ = some (.int .i64 0) := B.out.2.2.2.cell 0
  have x1 : W1.cell? ⟨w.heap.size + 2, 1, none⟩ = some (.int .u64 0) := B.out.2.2.2.cell 1
  have x2 : W1.cell? ⟨w.heap.size + 2, 2, none⟩ = some (.bool false) := B.out.2.2.2.cell 2
  have hfr0 := B.out.2.2.1.frozen 0
  have hfr1 := B.out.2.2.1.frozen 1
  have hfr2 := B.out.2.2.1.frozen 2
  have hfx0 := B.out.2.2.2.frozen 0
  have hfx1 := B.out.2.2.2.frozen 1
  have hfx2 := B.out.2.2.2.frozen 2
  clear hM1 hx
  obtain ⟨b, hb⟩ : ∃ b, decide (k ∈ l) = b := ⟨_, rfl⟩
  rw [hb]
  clear hb

  have HN := Hidden.mk (fun W (hW : Mod [] w W) => next11 k (H.out.1.news hW) (by have := H.out.2.1; omega) (rises_le H.out.2.2))
  rw [hr] at HN
  have HN2 : Hidden (∀ W, Mod [] w W → Calls Try.prog 91 #[.slice pa l.length cap, .int .u64 k] W fun e w' => e = .returned (.tuple #[.int .u64 ra, .bool rc]) ∧ ∃ q, w' = W.drewN q) := HN
  clear HN hr
  go_wp2_with fail
  refine (HN2.out _ (by repeat (first | with_reducible exact B.out.1 | with_reducible exact HB5.out | with_reducible refine Mod.set ?_ (.inr (Nat.le_add_right _ _)) _ | with_reducible refine Mod.drewN ?_ _ | with_reducible refine Mod.drew ?_))).mono ?_
  rintro e w2 ⟨rfl, q2, rfl⟩

  go_wp2_with fail
  obtain ⟨W5, hW5⟩ : ∃ W5, (((((W1.setCell ⟨w.heap.size + 2, 0, none⟩ (.int .i64 0)).setCell ⟨w.heap.size + 2, 1, none⟩ (.int .u64 0)).setCell ⟨w.heap.size + 2, 2, none⟩ (.bool false)).drewN q2).setCell ⟨w.heap.size + 2, 1, none⟩ (.int .u64 ra)).setCell ⟨w.heap.size + 2, 2, none⟩ (.bool rc) = W5 := ⟨_, rfl⟩
  have hx5 : Blk W5 (w.heap.size + 2) 72 #[.int .i64 0, .int .u64 ra, .bool rc] := by rw [← hW5]; simpa using (((((B.out.2.2.2.set 0 (.int .i64 0)).set 1 (.int .u64 0)).set 2 (.bool false)).drewN q2).set 1 (.int .u64 ra)).set 2 (.bool rc)
  have hr5 : Blk W5 (w.heap.size + 1) 72 #[.int .i64 0, .int .u64 0, .bool false] := by rw [← hW5]; exact (((((B.out.2.2.1.far (by show w.heap.size + 1 ≠ w.heap.size + 2; omega) _).far (by show w.heap.size + 1 ≠ w.heap.size + 2; omega) _).far (by show w.heap.size + 1 ≠ w.heap.size + 2; omega) _).drewN q2).far (by show w.heap.size + 1 ≠ w.heap.size + 2; omega) _).far (by show w.heap.size + 1 ≠ w.heap.size + 2; omega) _
  have hM5 : Mod [] w W5 := by
    rw [← hW5]
    repeat (first | with_reducible exact B.out.1 | with_reducible refine Mod.set ?_ (.inr (Nat.le_add_right _ _)) _ | with_reducible refine Mod.drewN ?_ _ | with_reducible refine Mod.drew ?_)
  clear c0 c1 r0 r1 r2 x0 x1 x2 hfr0 hfr1 hfr2 hfx0 hfx1 hfx2
  have r0 : W5.cell? ⟨w.heap.size + 1, 0, none⟩ = some (.int .i64 0) := hr5.cell 0
  have r1 : W5.cell? ⟨w.heap.size + 1, 1, none⟩ = some (.int .u64 0) := hr5.cell 1
  have r2 : W5.cell? ⟨w.heap.size + 1, 2, none⟩ = some (.bool false) := hr5.cell 2
  have x0 : W5.cell? ⟨w.heap.size + 2, 0, none⟩ = some (.int .i64 0) := hx5.cell 0
  have x1 : W5.cell? ⟨w.heap.size + 2, 1, none⟩ = some (.int .u64 ra) := hx5.cell 1
  have x2 : W5.cell? ⟨w.heap.size + 2, 2, none⟩ = some (.bool rc) := hx5.cell 2
  have hfr0 := hr5.frozen 0
  have hfr1 := hr5.frozen 1
  have hfr2 := hr5.frozen 2
  have hM5 := Hidden.mk hM5
  clear hx5 hr5

  go_wp2_with fail
  (try go_region)
  all_goals go_wp2_with fail
  all_goals
    (try simp only [Exit.inBlock, Exit.then])
    refine bodyPost_ret (v := .tuple #[.slice pa l.length cap, ansV (0, ra, rc)]) (by simp [results, Try.results47, go_sem, r0, r1, r2, x0, x1, x2]) rfl ⟨_, rfl, H.out.1.news (by repeat (first | with_reducible exact hM5.out | with_reducible exact hM5.out | with_reducible refine Mod.set ?_ (.inr (Nat.le_add_right _ _)) _ | with_reducible refine Mod.drewN ?_ _ | with_reducible refine Mod.drew ?_)), ?_, .inl rfl⟩
    repeat (first | with_reducible exact hM5.out | with_reducible refine Mod.set ?_ (.inr (Nat.le_add_right _ _)) _ | with_reducible refine Mod.drewN ?_ _ | with_reducible refine Mod.drew ?_)

set_option maxHeartbeats 4000000 in
set_option maxRecDepth 100000 in
theorem do11_prev {w : World} {v : Value} {l : List Int} (d k : Int) (h : ISl .u64 w v l) (hl : l.length ≤ 100000) (hs : l.Pairwise (· < ·)) (hd : 0 ≤ d ∧ d ≤ 255) (hm : d % 9 = 5) (ra : Int) (rc : Bool) (hr : prevL64 l k = (ra, rc)) :
    Calls Try.prog 47 #[v, .agg #[.int .u8 d, .int .u64 k]] w (Done11 w v (l, 0, ra, rc)) := by
  obtain ⟨pa, cap, rfl, -⟩ := h.slice_
  have HF := Hidden.mk (fun W (hW : Mod [] w W) => find11 k (h.news hW) (by omega) (rises_le hs))
  have H := Hidden.mk (And.intro h (And.intro hl hs))
  obtain ⟨hd0, hd1⟩ := hd
  obtain ⟨W0, hW0⟩ : ∃ W0, (w.alloc (.cells #[.int .u8 d, .int .u64 k] 70)).alloc (.cells #[.int .i64 0, .int .u64 0, .bool false] 72) = W0 := ⟨_, rfl⟩
  have hM0 : Mod [] w W0 := by rw [← hW0]; exact ((Mod.refl [] w).alloc _).alloc _
  have hs0 : W0.heap.size = w.heap.size + 2 := by rw [← hW0]; simp
  have hact : Blk W0 w.heap.size 70 #[.int .u8 d, .int .u64 k] := by rw [← hW0]; exact (Blk.new w _ _).alloc _
  have hans : Blk W0 (w.heap.size + 1) 72 #[.int .i64 0, .int .u64 0, .bool false] := by rw [← hW0]; exact Blk.new' (by simp) _ _
  have c0 : W0.cell? ⟨w.heap.size, 0, none⟩ = some (.int .u8 d) := hact.cell 0
  have c1 : W0.cell? ⟨w.heap.size, 1, none⟩ = some (.int .u64 k) := hact.cell 1
  have r0 : W0.cell? ⟨w.heap.size + 1, 0, none⟩ = some (.int .i64 0) := hans.cell 0
  have r1 : W0.cell? ⟨w.heap.size + 1, 1, none⟩ = some (.int .u64 0) := hans.cell 1
  have r2 : W0.cell? ⟨w.heap.size + 1, 2, none⟩ = some (.bool false) := hans.cell 2
  have hfr := hans.frozen 0
  have HM0 := Hidden.mk (And.intro hM0 hW0)
  have hfd := HF.out W0 hM0
  have HA := Hidden.mk (And.intro hact hans)
  clear h hl hs hM0 hact hans HF
  go_enter Try.func47, Try.ntmps47
  go_wp2_with fail
  refine hfd.mono ?_; rintro e w1 ⟨rfl, q, rfl⟩
  obtain ⟨W1, hW1⟩ : ∃ W1, (W0.drewN q).alloc (.cells #[.int .i64 0, .int .u64 0, .bool false] 72) = W1 := ⟨_, rfl⟩
  have hM1 : Mod [] W0 W1 := by rw [← hW1]; exact ((Mod.refl [] W0).drewN q).alloc _
  have hs1 : W1.heap.size = w.heap.size + 3 := by rw [← hW1]; simp [hs0]
  have hx : Blk W1 (w.heap.size + 2) 72 #[.int .i64 0, .int .u64 0, .bool false] := by rw [← hW1]; exact Blk.new' (by simp [hs0]) _ _
  have B := Hidden.mk (And.intro (HM0.out.1.trans hM1 (by simp)) (And.intro (HA.out.1.mod hM1 (by simp)) (And.intro (HA.out.2.mod hM1 (by simp)) hx)))
  clear c0 c1 r0 r1 r2 hfr
  have c0 : W1.cell? ⟨w.heap.size, 0, none⟩ = some (.int .u8 d) := B.out.2.1.cell 0
  have c1 : W1.cell? ⟨w.heap.size, 1, none⟩ = some (.int .u64 k) := B.out.2.1.cell 1
  have r0 : W1.cell? ⟨w.heap.size + 1, 0, none⟩ = some (.int .i64 0) := B.out.2.2.1.cell 0
  have r1 : W1.cell? ⟨w.heap.size + 1, 1, none⟩ = some (.int .u64 0) := B.out.2.2.1.cell 1
  have r2 : W1.cell? ⟨w.heap.size + 1, 2, none⟩ = some (.bool false) := B.out.2.2.1.cell 2
  have x0 : W1.cell? ⟨w.heap.size + 2, 0, none⟩ = some (.int .i64 0) := B.out.2.2.2.cell 0
  have x1 : W1.cell? ⟨w.heap.size + 2, 1, none⟩ = some (.int .u64 0) := B.out.2.2.2.cell 1
  have x2 : W1.cell? ⟨w.heap.size + 2, 2, none⟩ = some (.bool false) := B.out.2.2.2.cell 2
  have hfr0 := B.out.2.2.1.frozen 0
  have hfr1 := B.out.2.2.1.frozen 1
  have hfr2 := B.out.2.2.1.frozen 2
  have hfx0 := B.out.2.2.2.frozen 0
  have hfx1 := B.out.2.2.2.frozen 1
  have hfx2 := B.out.2.2.2.frozen 2
  clear hM1 hx
  obtain ⟨b, hb⟩ : ∃ b, decide (k ∈ l) = b := ⟨_, rfl⟩
  rw [hb]
  clear hb

  have HN := Hidden.mk (fun W (hW : Mod [] w W) => prev11 k (H.out.1.news hW) (by have := H.out.2.1; omega) (rises_le H.out.2.2))
  rw [hr] at HN
  have HN2 : Hidden (∀ W, Mod [] w W → Calls Try.prog 92 #[.slice pa l.length cap, .int .u64 k] W fun e w' => e = .returned (.tuple #[.int .u64 ra, .bool rc]) ∧ ∃ q, w' = W.drewN q) := HN
  clear HN hr
  go_wp2_with fail
  refine (HN2.out _ (by repeat (first | with_reducible exact B.out.1 | with_reducible exact HB5.out | with_reducible refine Mod.set ?_ (.inr (Nat.le_add_right _ _)) _ | with_reducible refine Mod.drewN ?_ _ | with_reducible refine Mod.drew ?_))).mono ?_
  rintro e w2 ⟨rfl, q2, rfl⟩

  go_wp2_with fail
  obtain ⟨W5, hW5⟩ : ∃ W5, (((((W1.setCell ⟨w.heap.size + 2, 0, none⟩ (.int .i64 0)).setCell ⟨w.heap.size + 2, 1, none⟩ (.int .u64 0)).setCell ⟨w.heap.size + 2, 2, none⟩ (.bool false)).drewN q2).setCell ⟨w.heap.size + 2, 1, none⟩ (.int .u64 ra)).setCell ⟨w.heap.size + 2, 2, none⟩ (.bool rc) = W5 := ⟨_, rfl⟩
  have hx5 : Blk W5 (w.heap.size + 2) 72 #[.int .i64 0, .int .u64 ra, .bool rc] := by rw [← hW5]; simpa using (((((B.out.2.2.2.set 0 (.int .i64 0)).set 1 (.int .u64 0)).set 2 (.bool false)).drewN q2).set 1 (.int .u64 ra)).set 2 (.bool rc)
  have hr5 : Blk W5 (w.heap.size + 1) 72 #[.int .i64 0, .int .u64 0, .bool false] := by rw [← hW5]; exact (((((B.out.2.2.1.far (by show w.heap.size + 1 ≠ w.heap.size + 2; omega) _).far (by show w.heap.size + 1 ≠ w.heap.size + 2; omega) _).far (by show w.heap.size + 1 ≠ w.heap.size + 2; omega) _).drewN q2).far (by show w.heap.size + 1 ≠ w.heap.size + 2; omega) _).far (by show w.heap.size + 1 ≠ w.heap.size + 2; omega) _
  have hM5 : Mod [] w W5 := by
    rw [← hW5]
    repeat (first | with_reducible exact B.out.1 | with_reducible refine Mod.set ?_ (.inr (Nat.le_add_right _ _)) _ | with_reducible refine Mod.drewN ?_ _ | with_reducible refine Mod.drew ?_)
  clear c0 c1 r0 r1 r2 x0 x1 x2 hfr0 hfr1 hfr2 hfx0 hfx1 hfx2
  have r0 : W5.cell? ⟨w.heap.size + 1, 0, none⟩ = some (.int .i64 0) := hr5.cell 0
  have r1 : W5.cell? ⟨w.heap.size + 1, 1, none⟩ = some (.int .u64 0) := hr5.cell 1
  have r2 : W5.cell? ⟨w.heap.size + 1, 2, none⟩ = some (.bool false) := hr5.cell 2
  have x0 : W5.cell? ⟨w.heap.size + 2, 0, none⟩ = some (.int .i64 0) := hx5.cell 0
  have x1 : W5.cell? ⟨w.heap.size + 2, 1, none⟩ = some (.int .u64 ra) := hx5.cell 1
  have x2 : W5.cell? ⟨w.heap.size + 2, 2, none⟩ = some (.bool rc) := hx5.cell 2
  have hfr0 := hr5.frozen 0
  have hfr1 := hr5.frozen 1
  have hfr2 := hr5.frozen 2
  have hM5 := Hidden.mk hM5
  clear hx5 hr5

  go_wp2_with fail
  (try go_region)
  all_goals go_wp2_with fail
  all_goals
    (try simp only [Exit.inBlock, Exit.then])
    refine bodyPost_ret (v := .tuple #[.slice pa l.length cap, ansV (0, ra, rc)]) (by simp [results, Try.results47, go_sem, r0, r1, r2, x0, x1, x2]) rfl ⟨_, rfl, H.out.1.news (by repeat (first | with_reducible exact hM5.out | with_reducible exact hM5.out | with_reducible refine Mod.set ?_ (.inr (Nat.le_add_right _ _)) _ | with_reducible refine Mod.drewN ?_ _ | with_reducible refine Mod.drew ?_)), ?_, .inl rfl⟩
    repeat (first | with_reducible exact hM5.out | with_reducible refine Mod.set ?_ (.inr (Nat.le_add_right _ _)) _ | with_reducible refine Mod.drewN ?_ _ | with_reducible refine Mod.drew ?_)

set_option maxHeartbeats 4000000 in
set_option maxRecDepth 100000 in
theorem do11_min {w : World} {v : Value} {l : List Int} (d k : Int) (h : ISl .u64 w v l) (hl : l.length ≤ 100000) (hs : l.Pairwise (· < ·)) (hd : 0 ≤ d ∧ d ≤ 255) (hm : d % 9 = 6) (ra : Int) (rc : Bool) (hr : selL l (rk l 0) = (ra, rc)) :
    Calls Try.prog 47 #[v, .agg #[.int .u8 d, .int .u64 k]] w (Done11 w v (l, 0, ra, rc)) := by
  obtain ⟨pa, cap, rfl, -⟩ := h.slice_
  have HF := Hidden.mk (fun W (hW : Mod [] w W) => find11 k (h.news hW) (by omega) (rises_le hs))
  have H := Hidden.mk (And.intro h (And.intro hl hs))
  obtain ⟨hd0, hd1⟩ := hd
  obtain ⟨W0, hW0⟩ : ∃ W0, (w.alloc (.cells #[.int .u8 d, .int .u64 k] 70)).alloc (.cells #[.int .i64 0, .int .u64 0, .bool false] 72) = W0 := ⟨_, rfl⟩
  have hM0 : Mod [] w W0 := by rw [← hW0]; exact ((Mod.refl [] w).alloc _).alloc _
  have hs0 : W0.heap.size = w.heap.size + 2 := by rw [← hW0]; simp
  have hact : Blk W0 w.heap.size 70 #[.int .u8 d, .int .u64 k] := by rw [← hW0]; exact (Blk.new w _ _).alloc _
  have hans : Blk W0 (w.heap.size + 1) 72 #[.int .i64 0, .int .u64 0, .bool false] := by rw [← hW0]; exact Blk.new' (by simp) _ _
  have c0 : W0.cell? ⟨w.heap.size, 0, none⟩ = some (.int .u8 d) := hact.cell 0
  have c1 : W0.cell? ⟨w.heap.size, 1, none⟩ = some (.int .u64 k) := hact.cell 1
  have r0 : W0.cell? ⟨w.heap.size + 1, 0, none⟩ = some (.int .i64 0) := hans.cell 0
  have r1 : W0.cell? ⟨w.heap.size + 1, 1, none⟩ = some (.int .u64 0) := hans.cell 1
  have r2 : W0.cell? ⟨w.heap.size + 1, 2, none⟩ = some (.bool false) := hans.cell 2
  have hfr := hans.frozen 0
  have HM0 := Hidden.mk (And.intro hM0 hW0)
  have hfd := HF.out W0 hM0
  have HA := Hidden.mk (And.intro hact hans)
  clear h hl hs hM0 hact hans HF
  go_enter Try.func47, Try.ntmps47
  go_wp2_with fail
  refine hfd.mono ?_; rintro e w1 ⟨rfl, q, rfl⟩
  obtain ⟨W1, hW1⟩ : ∃ W1, (W0.drewN q).alloc (.cells #[.int .i64 0, .int .u64 0, .bool false] 72) = W1 := ⟨_, rfl⟩
  have hM1 : Mod [] W0 W1 := by rw [← hW1]; exact ((Mod.refl [] W0).drewN q).alloc _
  have hs1 : W1.heap.size = w.heap.size + 3 := by rw [← hW1]; simp [hs0]
  have hx : Blk W1 (w.heap.size + 2) 72 #[.int .i64 0, .int .u64 0, .bool false] := by rw [← hW1]; exact Blk.new' (by simp [hs0]) _ _
  have B := Hidden.mk (And.intro (HM0.out.1.trans hM1 (by simp)) (And.intro (HA.out.1.mod hM1 (by simp)) (And.intro (HA.out.2.mod hM1 (by simp)) hx)))
  clear c0 c1 r0 r1 r2 hfr
  have c0 : W1.cell? ⟨w.heap.size, 0, none⟩ = some (.int .u8 d) := B.out.2.1.cell 0
  have c1 : W1.cell? ⟨w.heap.size, 1, none⟩ = some (.int .u64 k) := B.out.2.1.cell 1
  have r0 : W1.cell? ⟨w.heap.size + 1, 0, none⟩ = some (.int .i64 0) := B.out.2.2.1.cell 0
  have r1 : W1.cell? ⟨w.heap.size + 1, 1, none⟩ = some (.int .u64 0) := B.out.2.2.1.cell 1
  have r2 : W1.cell? ⟨w.heap.size + 1, 2, none⟩ = some (.bool false) := B.out.2.2.1.cell 2
  have x0 : W1.cell? ⟨w.heap.size + 2, 0, none⟩ = some (.int .i64 0) := B.out.2.2.2.cell 0
  have x1 : W1.cell? ⟨w.heap.size + 2, 1, none⟩ = some (.int .u64 0) := B.out.2.2.2.cell 1
  have x2 : W1.cell? ⟨w.heap.size + 2, 2, none⟩ = some (.bool false) := B.out.2.2.2.cell 2
  have hfr0 := B.out.2.2.1.frozen 0
  have hfr1 := B.out.2.2.1.frozen 1
  have hfr2 := B.out.2.2.1.frozen 2
  have hfx0 := B.out.2.2.2.frozen 0
  have hfx1 := B.out.2.2.2.frozen 1
  have hfx2 := B.out.2.2.2.frozen 2
  clear hM1 hx
  obtain ⟨b, hb⟩ : ∃ b, decide (k ∈ l) = b := ⟨_, rfl⟩
  rw [hb]
  clear hb

  have HN := Hidden.mk (fun W (hW : Mod [] w W) => next11 0 (H.out.1.news hW) (by have := H.out.2.1; omega) (rises_le H.out.2.2))
  rw [hr] at HN
  have HN2 : Hidden (∀ W, Mod [] w W → Calls Try.prog 91 #[.slice pa l.length cap, .int .u64 0] W fun e w' => e = .returned (.tuple #[.int .u64 ra, .bool rc]) ∧ ∃ q, w' = W.drewN q) := HN
  clear HN hr
  go_wp2_with fail
  refine (HN2.out _ (by repeat (first | with_reducible exact B.out.1 | with_reducible exact HB5.out | with_reducible refine Mod.set ?_ (.inr (Nat.le_add_right _ _)) _ | with_reducible refine Mod.drewN ?_ _ | with_reducible refine Mod.drew ?_))).mono ?_
  rintro e w2 ⟨rfl, q2, rfl⟩

  go_wp2_with fail
  obtain ⟨W5, hW5⟩ : ∃ W5, (((((W1.setCell ⟨w.heap.size + 2, 0, none⟩ (.int .i64 0)).setCell ⟨w.heap.size + 2, 1, none⟩ (.int .u64 0)).setCell ⟨w.heap.size + 2, 2, none⟩ (.bool false)).drewN q2).setCell ⟨w.heap.size + 2, 1, none⟩ (.int .u64 ra)).setCell ⟨w.heap.size + 2, 2, none⟩ (.bool rc) = W5 := ⟨_, rfl⟩
  have hx5 : Blk W5 (w.heap.size + 2) 72 #[.int .i64 0, .int .u64 ra, .bool rc] := by rw [← hW5]; simpa using (((((B.out.2.2.2.set 0 (.int .i64 0)).set 1 (.int .u64 0)).set 2 (.bool false)).drewN q2).set 1 (.int .u64 ra)).set 2 (.bool rc)
  have hr5 : Blk W5 (w.heap.size + 1) 72 #[.int .i64 0, .int .u64 0, .bool false] := by rw [← hW5]; exact (((((B.out.2.2.1.far (by show w.heap.size + 1 ≠ w.heap.size + 2; omega) _).far (by show w.heap.size + 1 ≠ w.heap.size + 2; omega) _).far (by show w.heap.size + 1 ≠ w.heap.size + 2; omega) _).drewN q2).far (by show w.heap.size + 1 ≠ w.heap.size + 2; omega) _).far (by show w.heap.size + 1 ≠ w.heap.size + 2; omega) _
  have hM5 : Mod [] w W5 := by
    rw [← hW5]
    repeat (first | with_reducible exact B.out.1 | with_reducible refine Mod.set ?_ (.inr (Nat.le_add_right _ _)) _ | with_reducible refine Mod.drewN ?_ _ | with_reducible refine Mod.drew ?_)
  clear c0 c1 r0 r1 r2 x0 x1 x2 hfr0 hfr1 hfr2 hfx0 hfx1 hfx2
  have r0 : W5.cell? ⟨w.heap.size + 1, 0, none⟩ = some (.int .i64 0) := hr5.cell 0
  have r1 : W5.cell? ⟨w.heap.size + 1, 1, none⟩ = some (.int .u64 0) := hr5.cell 1
  have r2 : W5.cell? ⟨w.heap.size + 1, 2, none⟩ = some (.bool false) := hr5.cell 2
  have x0 : W5.cell? ⟨w.heap.size + 2, 0, none⟩ = some (.int .i64 0) := hx5.cell 0
  have x1 : W5.cell? ⟨w.heap.size + 2, 1, none⟩ = some (.int .u64 ra) := hx5.cell 1
  have x2 : W5.cell? ⟨w.heap.size + 2, 2, none⟩ = some (.bool rc) := hx5.cell 2
  have hfr0 := hr5.frozen 0
  have hfr1 := hr5.frozen 1
  have hfr2 := hr5.frozen 2
  have hM5 := Hidden.mk hM5
  clear hx5 hr5

  go_wp2_with fail
  (try go_region)
  all_goals go_wp2_with fail
  all_goals
    (try simp only [Exit.inBlock, Exit.then])
    refine bodyPost_ret (v := .tuple #[.slice pa l.length cap, ansV (0, ra, rc)]) (by simp [results, Try.results47, go_sem, r0, r1, r2, x0, x1, x2]) rfl ⟨_, rfl, H.out.1.news (by repeat (first | with_reducible exact hM5.out | with_reducible exact hM5.out | with_reducible refine Mod.set ?_ (.inr (Nat.le_add_right _ _)) _ | with_reducible refine Mod.drewN ?_ _ | with_reducible refine Mod.drew ?_)), ?_, .inl rfl⟩
    repeat (first | with_reducible exact hM5.out | with_reducible refine Mod.set ?_ (.inr (Nat.le_add_right _ _)) _ | with_reducible refine Mod.drewN ?_ _ | with_reducible refine Mod.drew ?_)

set_option maxHeartbeats 4000000 in
set_option maxRecDepth 100000 in
theorem do11_max {w : World} {v : Value} {l : List Int} (d k : Int) (h : ISl .u64 w v l) (hl : l.length ≤ 100000) (hs : l.Pairwise (· < ·)) (hd : 0 ≤ d ∧ d ≤ 255) (hm : d % 9 = 7) (ra : Int) (rc : Bool) (hr : prevL64 l 18446744073709551615 = (ra, rc)) :
    Calls Try.prog 47 #[v, .agg #[.int .u8 d, .int .u64 k]] w (Done11 w v (l, 0, ra, rc)) := by
  obtain ⟨pa, cap, rfl, -⟩ := h.slice_
  have HF := Hidden.mk (fun W (hW : Mod [] w W) => find11 k (h.news hW) (by omega) (rises_le hs))
  have H := Hidden.mk (And.intro h (And.intro hl hs))
  obtain ⟨hd0, hd1⟩ := hd
  obtain ⟨W0, hW0⟩ : ∃ W0, (w.alloc (.cells #[.int .u8 d, .int .u64 k] 70)).alloc (.cells #[.int .i64 0, .int .u64 0, .bool false] 72) = W0 := ⟨_, rfl⟩
  have hM0 : Mod [] w W0 := by rw [← hW0]; exact ((Mod.refl [] w).alloc _).alloc _
  have hs0 : W0.heap.size = w.heap.size + 2 := by rw [← hW0]; simp
  have hact : Blk W0 w.heap.size 70 #[.int .u8 d, .int .u64 k] := by rw [← hW0]; exact (Blk.new w _ _).alloc _
  have hans : Blk W0 (w.heap.size + 1) 72 #[.int .i64 0, .int .u64 0, .bool false] := by rw [← hW0]; exact Blk.new' (by simp) _ _
  have c0 : W0.cell? ⟨w.heap.size, 0, none⟩ = some (.int .u8 d) := hact.cell 0
  have c1 : W0.cell? ⟨w.heap.size, 1, none⟩ = some (.int .u64 k) := hact.cell 1
  have r0 : W0.cell? ⟨w.heap.size + 1, 0, none⟩ = some (.int .i64 0) := hans.cell 0
  have r1 : W0.cell? ⟨w.heap.size + 1, 1, none⟩ = some (.int .u64 0) := hans.cell 1
  have r2 : W0.cell? ⟨w.heap.size + 1, 2, none⟩ = some (.bool false) := hans.cell 2
  have hfr := hans.frozen 0
  have HM0 := Hidden.mk (And.intro hM0 hW0)
  have hfd := HF.out W0 hM0
  have HA := Hidden.mk (And.intro hact hans)
  clear h hl hs hM0 hact hans HF
  go_enter Try.func47, Try.ntmps47
  go_wp2_with fail
  refine hfd.mono ?_; rintro e w1 ⟨rfl, q, rfl⟩
  obtain ⟨W1, hW1⟩ : ∃ W1, (W0.drewN q).alloc (.cells #[.int .i64 0, .int .u64 0, .bool false] 72) = W1 := ⟨_, rfl⟩
  have hM1 : Mod [] W0 W1 := by rw [← hW1]; exact ((Mod.refl [] W0).drewN q).alloc _
  have hs1 : W1.heap.size = w.heap.size + 3 := by rw [← hW1]; simp [hs0]
  have hx : Blk W1 (w.heap.size + 2) 72 #[.int .i64 0, .int .u64 0, .bool false] := by rw [← hW1]; exact Blk.new' (by simp [hs0]) _ _
  have B := Hidden.mk (And.intro (HM0.out.1.trans hM1 (by simp)) (And.intro (HA.out.1.mod hM1 (by simp)) (And.intro (HA.out.2.mod hM1 (by simp)) hx)))
  clear c0 c1 r0 r1 r2 hfr
  have c0 : W1.cell? ⟨w.heap.size, 0, none⟩ = some (.int .u8 d) := B.out.2.1.cell 0
  have c1 : W1.cell? ⟨w.heap.size, 1, none⟩ = some (.int .u64 k) := B.out.2.1.cell 1
  have r0 : W1.cell? ⟨w.heap.size + 1, 0, none⟩ = some (.int .i64 0) := B.out.2.2.1.cell 0
  have r1 : W1.cell? ⟨w.heap.size + 1, 1, none⟩ = some (.int .u64 0) := B.out.2.2.1.cell 1
  have r2 : W1.cell? ⟨w.heap.size + 1, 2, none⟩ = some (.bool false) := B.out.2.2.1.cell 2
  have x0 : W1.cell? ⟨w.heap.size + 2, 0, none⟩ = some (.int .i64 0) := B.out.2.2.2.cell 0
  have x1 : W1.cell? ⟨w.heap.size + 2, 1, none⟩ = some (.int .u64 0) := B.out.2.2.2.cell 1
  have x2 : W1.cell? ⟨w.heap.size + 2, 2, none⟩ = some (.bool false) := B.out.2.2.2.cell 2
  have hfr0 := B.out.2.2.1.frozen 0
  have hfr1 := B.out.2.2.1.frozen 1
  have hfr2 := B.out.2.2.1.frozen 2
  have hfx0 := B.out.2.2.2.frozen 0
  have hfx1 := B.out.2.2.2.frozen 1
  have hfx2 := B.out.2.2.2.frozen 2
  clear hM1 hx
  obtain ⟨b, hb⟩ : ∃ b, decide (k ∈ l) = b := ⟨_, rfl⟩
  rw [hb]
  clear hb

  have HN := Hidden.mk (fun W (hW : Mod [] w W) => prev11 18446744073709551615 (H.out.1.news hW) (by have := H.out.2.1; omega) (rises_le H.out.2.2))
  rw [hr] at HN
  have HN2 : Hidden (∀ W, Mod [] w W → Calls Try.prog 92 #[.slice pa l.length cap, .int .u64 18446744073709551615] W fun e w' => e = .returned (.tuple #[.int .u64 ra, .bool rc]) ∧ ∃ q, w' = W.drewN q) := HN
  clear HN hr
  go_wp2_with fail
  refine (HN2.out _ (by repeat (first | with_reducible exact B.out.1 | with_reducible exact HB5.out | with_reducible refine Mod.set ?_ (.inr (Nat.le_add_right _ _)) _ | with_reducible refine Mod.drewN ?_ _ | with_reducible refine Mod.drew ?_))).mono ?_
  rintro e w2 ⟨rfl, q2, rfl⟩

  go_wp2_with fail
  obtain ⟨W5, hW5⟩ : ∃ W5, (((((W1.setCell ⟨w.heap.size + 2, 0, none⟩ (.int .i64 0)).setCell ⟨w.heap.size + 2, 1, none⟩ (.int .u64 0)).setCell ⟨w.heap.size + 2, 2, none⟩ (.bool false)).drewN q2).setCell ⟨w.heap.size + 2, 1, none⟩ (.int .u64 ra)).setCell ⟨w.heap.size + 2, 2, none⟩ (.bool rc) = W5 := ⟨_, rfl⟩
  have hx5 : Blk W5 (w.heap.size + 2) 72 #[.int .i64 0, .int .u64 ra, .bool rc] := by rw [← hW5]; simpa using (((((B.out.2.2.2.set 0 (.int .i64 0)).set 1 (.int .u64 0)).set 2 (.bool false)).drewN q2).set 1 (.int .u64 ra)).set 2 (.bool rc)
  have hr5 : Blk W5 (w.heap.size + 1) 72 #[.int .i64 0, .int .u64 0, .bool false] := by rw [← hW5]; exact (((((B.out.2.2.1.far (by show w.heap.size + 1 ≠ w.heap.size + 2; omega) _).far (by show w.heap.size + 1 ≠ w.heap.size + 2; omega) _).far (by show w.heap.size + 1 ≠ w.heap.size + 2; omega) _).drewN q2).far (by show w.heap.size + 1 ≠ w.heap.size + 2; omega) _).far (by show w.heap.size + 1 ≠ w.heap.size + 2; omega) _
  have hM5 : Mod [] w W5 := by
    rw [← hW5]
    repeat (first | with_reducible exact B.out.1 | with_reducible refine Mod.set ?_ (.inr (Nat.le_add_right _ _)) _ | with_reducible refine Mod.drewN ?_ _ | with_reducible refine Mod.drew ?_)
  clear c0 c1 r0 r1 r2 x0 x1 x2 hfr0 hfr1 hfr2 hfx0 hfx1 hfx2
  have r0 : W5.cell? ⟨w.heap.size + 1, 0, none⟩ = some (.int .i64 0) := hr5.cell 0
  have r1 : W5.cell? ⟨w.heap.size + 1, 1, none⟩ = some (.int .u64 0) := hr5.cell 1
  have r2 : W5.cell? ⟨w.heap.size + 1, 2, none⟩ = some (.bool false) := hr5.cell 2
  have x0 : W5.cell? ⟨w.heap.size + 2, 0, none⟩ = some (.int .i64 0) := hx5.cell 0
  have x1 : W5.cell? ⟨w.heap.size + 2, 1, none⟩ = some (.int .u64 ra) := hx5.cell 1
  have x2 : W5.cell? ⟨w.heap.size + 2, 2, none⟩ = some (.bool rc) := hx5.cell 2
  have hfr0 := hr5.frozen 0
  have hfr1 := hr5.frozen 1
  have hfr2 := hr5.frozen 2
  have hM5 := Hidden.mk hM5
  clear hx5 hr5

  go_wp2_with fail
  (try go_region)
  all_goals go_wp2_with fail
  all_goals
    (try simp only [Exit.inBlock, Exit.then])
    refine bodyPost_ret (v := .tuple #[.slice pa l.length cap, ansV (0, ra, rc)]) (by simp [results, Try.results47, go_sem, r0, r1, r2, x0, x1, x2]) rfl ⟨_, rfl, H.out.1.news (by repeat (first | with_reducible exact hM5.out | with_reducible exact hM5.out | with_reducible refine Mod.set ?_ (.inr (Nat.le_add_right _ _)) _ | with_reducible refine Mod.drewN ?_ _ | with_reducible refine Mod.drew ?_)), ?_, .inl rfl⟩
    repeat (first | with_reducible exact hM5.out | with_reducible refine Mod.set ?_ (.inr (Nat.le_add_right _ _)) _ | with_reducible refine Mod.drewN ?_ _ | with_reducible refine Mod.drew ?_)

set_option maxHeartbeats 4000000 in
set_option maxRecDepth 100000 in
theorem do11_add_yes0 {w : World} {v : Value} {l : List Int} (d k : Int) (h : ISl .u64 w v l) (hl : l.length ≤ 100000) (hs : l.Pairwise (· < ·)) (hd : 0 ≤ d ∧ d ≤ 255) (hm : d % 9 = 0) (hk : k ∉ l) :
    Calls Try.prog 47 #[v, .agg #[.int .u8 d, .int .u64 k]] w (Done11 w v (insL l k, 0, 0, false)) := by
  obtain ⟨pa, cap, rfl, -⟩ := h.slice_
  have HF := Hidden.mk (fun W (hW : Mod [] w W) => find11 k (h.news hW) (by omega) (rises_le hs))
  have H := Hidden.mk (And.intro h (And.intro hl hs))
  obtain ⟨hd0, hd1⟩ := hd
  obtain ⟨W0, hW0⟩ : ∃ W0, (w.alloc (.cells #[.int .u8 d, .int .u64 k] 70)).alloc (.cells #[.int .i64 0, .int .u64 0, .bool false] 72) = W0 := ⟨_, rfl⟩
  have hM0 : Mod [] w W0 := by rw [← hW0]; exact ((Mod.refl [] w).alloc _).alloc _
  have hs0 : W0.heap.size = w.heap.size + 2 := by rw [← hW0]; simp
  have hact : Blk W0 w.heap.size 70 #[.int .u8 d, .int .u64 k] := by rw [← hW0]; exact (Blk.new w _ _).alloc _
  have hans : Blk W0 (w.heap.size + 1) 72 #[.int .i64 0, .int .u64 0, .bool false] := by rw [← hW0]; exact Blk.new' (by simp) _ _
  have c0 : W0.cell? ⟨w.heap.size, 0, none⟩ = some (.int .u8 d) := hact.cell 0
  have c1 : W0.cell? ⟨w.heap.size, 1, none⟩ = some (.int .u64 k) := hact.cell 1
  have r0 : W0.cell? ⟨w.heap.size + 1, 0, none⟩ = some (.int .i64 0) := hans.cell 0
  have r1 : W0.cell? ⟨w.heap.size + 1, 1, none⟩ = some (.int .u64 0) := hans.cell 1
  have r2 : W0.cell? ⟨w.heap.size + 1, 2, none⟩ = some (.bool false) := hans.cell 2
  have hfr := hans.frozen 0
  have HM0 := Hidden.mk (And.intro hM0 hW0)
  have hfd := HF.out W0 hM0
  have HA := Hidden.mk (And.intro hact hans)
  clear h hl hs hM0 hact hans HF
  go_enter Try.func47, Try.ntmps47
  go_wp2_with fail
  refine hfd.mono ?_; rintro e w1 ⟨rfl, q, rfl⟩
  obtain ⟨W1, hW1⟩ : ∃ W1, (W0.drewN q).alloc (.cells #[.int .i64 0, .int .u64 0, .bool false] 72) = W1 := ⟨_, rfl⟩
  have hM1 : Mod [] W0 W1 := by rw [← hW1]; exact ((Mod.refl [] W0).drewN q).alloc _
  have hs1 : W1.heap.size = w.heap.size + 3 := by rw [← hW1]; simp [hs0]
  have hx : Blk W1 (w.heap.size + 2) 72 #[.int .i64 0, .int .u64 0, .bool false] := by rw [← hW1]; exact Blk.new' (by simp [hs0]) _ _
  have B := Hidden.mk (And.intro (HM0.out.1.trans hM1 (by simp)) (And.intro (HA.out.1.mod hM1 (by simp)) (And.intro (HA.out.2.mod hM1 (by simp)) hx)))
  clear c0 c1 r0 r1 r2 hfr
  have c0 : W1.cell? ⟨w.heap.size, 0, none⟩ = some (.int .u8 d) := B.out.2.1.cell 0
  have c1 : W1.cell? ⟨w.heap.size, 1, none⟩ = some (.int .u64 k) := B.out.2.1.cell 1
  have r0 : W1.cell? ⟨w.heap.size + 1, 0, none⟩ = some (.int .i64 0) := B.out.2.2.1.cell 0
  have r1 : W1.cell? ⟨w.heap.size + 1, 1, none⟩ = some (.int .u64 0) := B.out.2.2.1.cell 1
  have r2 : W1.cell? ⟨w.heap.size + 1, 2, none⟩ = some (.bool false) := B.out.2.2.1.cell 2
  have x0 : W1.cell? ⟨w.heap.size + 2, 0, none⟩ = some (.int .i64 0) := B.out.2.2.2.cell 0
  have x1 : W1.cell? ⟨w.heap.size + 2, 1, none⟩ = some (.int .u64 0) := B.out.2.2.2.cell 1
  have x2 : W1.cell? ⟨w.heap.size + 2, 2, none⟩ = some (.bool false) := B.out.2.2.2.cell 2
  have hfr0 := B.out.2.2.1.frozen 0
  have hfr1 := B.out.2.2.1.frozen 1
  have hfr2 := B.out.2.2.1.frozen 2
  have hfx0 := B.out.2.2.2.frozen 0
  have hfx1 := B.out.2.2.2.frozen 1
  have hfx2 := B.out.2.2.2.frozen 2
  clear hM1 hx
  rw [decide_eq_false hk]
  have HC := Hidden.mk (fun W (hW : Mod [] w W) => add11n k (H.out.1.news hW) (by have := H.out.2.1; omega) (rises_le H.out.2.2))
  rw [if_neg hk] at HC
  obtain ⟨Z, hZ⟩ : ∃ Z, insL l k = Z := ⟨_, rfl⟩
  have HNE : Hidden ((insL l k).length ≠ l.length) := ⟨by unfold insL; have := rk_le l k; simp; omega⟩
  clear hk

  go_wp2_with fail
  obtain ⟨W5, hW5⟩ : ∃ W5, ((W1.setCell ⟨w.heap.size + 2, 0, none⟩ (.int .i64 0)).setCell ⟨w.heap.size + 2, 1, none⟩ (.int .u64 0)).setCell ⟨w.heap.size + 2, 2, none⟩ (.bool false) = W5 := ⟨_, rfl⟩
  have hx5 : Blk W5 (w.heap.size + 2) 72 #[.int .i64 0, .int .u64 0, .bool false] := by rw [← hW5]; simpa using ((B.out.2.2.2.set 0 (.int .i64 0)).set 1 (.int .u64 0)).set 2 (.bool false)
  have hr5 : Blk W5 (w.heap.size + 1) 72 #[.int .i64 0, .int .u64 0, .bool false] := by rw [← hW5]; exact ((B.out.2.2.1.far (by show w.heap.size + 1 ≠ w.heap.size + 2; omega) _).far (by show w.heap.size + 1 ≠ w.heap.size + 2; omega) _).far (by show w.heap.size + 1 ≠ w.heap.size + 2; omega) _
  have hM5 : Mod [] w W5 := by
    rw [← hW5]
    repeat (first | with_reducible exact B.out.1 | with_reducible refine Mod.set ?_ (.inr (Nat.le_add_right _ _)) _ | with_reducible refine Mod.drewN ?_ _ | with_reducible refine Mod.drew ?_)
  clear c0 c1 r0 r1 r2 x0 x1 x2 hfr0 hfr1 hfr2 hfx0 hfx1 hfx2
  have r0 : W5.cell? ⟨w.heap.size + 1, 0, none⟩ = some (.int .i64 0) := hr5.cell 0
  have r1 : W5.cell? ⟨w.heap.size + 1, 1, none⟩ = some (.int .u64 0) := hr5.cell 1
  have r2 : W5.cell? ⟨w.heap.size + 1, 2, none⟩ = some (.bool false) := hr5.cell 2
  have x0 : W5.cell? ⟨w.heap.size + 2, 0, none⟩ = some (.int .i64 0) := hx5.cell 0
  have x1 : W5.cell? ⟨w.heap.size + 2, 1, none⟩ = some (.int .u64 0) := hx5.cell 1
  have x2 : W5.cell? ⟨w.heap.size + 2, 2, none⟩ = some (.bool false) := hx5.cell 2
  have hfr0 := hr5.frozen 0
  have hfr1 := hr5.frozen 1
  have hfr2 := hr5.frozen 2
  have hM5 := Hidden.mk hM5
  have k1 : W5.cell? ⟨w.heap.size, 1, none⟩ = some (.int .u64 k) := by rw [← hW5]; exact ((((B.out.2.1.far (by show w.heap.size ≠ w.heap.size + 2; omega) _).far (by show w.heap.size ≠ w.heap.size + 2; omega) _).far (by show w.heap.size ≠ w.heap.size + 2; omega) _)).cell 1
  have hs5 : w.heap.size + 2 < W5.heap.size := hx5.lt
  have HB5 := Hidden.mk (And.intro hr5 hx5)
  clear hx5 hr5

  go_wp2_with fail
  trace_state
  go_region_with (go_at_call 55; refine (HC.out _ (by repeat (first | with_reducible exact hM5.out | with_reducible exact hM5.out | with_reducible refine Mod.set ?_ (.inr (Nat.le_add_right _ _)) _ | with_reducible refine Mod.drewN ?_ _ | with_reducible refine Mod.drew ?_))).mono ?_; rintro e w8 ⟨v8, rfl, hi8, hm8, hg8⟩; have hr8 : Blk w8 (w.heap.size + 1) 72 #[.int .i64 0, .int .u64 0, .bool false] := (hm8.block _ (show w.heap.size + 1 < _ from HB5.out.1.lt) (by simp)).trans HB5.out.1; have hx8 : Blk w8 (w.heap.size + 2) 72 #[.int .i64 0, .int .u64 0, .bool false] := (hm8.block _ (show w.heap.size + 2 < _ from HB5.out.2.lt) (by simp)).trans HB5.out.2; clear r0 r1 r2 x0 x1 x2 hfr0 hfr1 hfr2 k1 hW5; have r0 : w8.cell? ⟨w.heap.size + 1, 0, none⟩ = some (.int .i64 0) := hr8.cell 0; have fr0 := hr8.frozen 0; have r1 : w8.cell? ⟨w.heap.size + 1, 1, none⟩ = some (.int .u64 0) := hr8.cell 1; have fr1 := hr8.frozen 1; have r2 : w8.cell? ⟨w.heap.size + 1, 2, none⟩ = some (.bool false) := hr8.cell 2; have fr2 := hr8.frozen 2; have x0 : w8.cell? ⟨w.heap.size + 2, 0, none⟩ = some (.int .i64 0) := hx8.cell 0; have fx0 := hx8.frozen 0; have x1 : w8.cell? ⟨w.heap.size + 2, 1, none⟩ = some (.int .u64 0) := hx8.cell 1; have fx1 := hx8.frozen 1; have x2 : w8.cell? ⟨w.heap.size + 2, 2, none⟩ = some (.bool false) := hx8.cell 2; have fx2 := hx8.frozen 2; have hl8 : w.heap.size + 2 < w8.heap.size := hx8.lt; have hn8 : ∀ b ∈ rb v8, W5.heap.size ≤ b := newOf hi8 hg8 HNE.out; have hM8 : Mod [] w w8 := Mod.trans (S := []) (T := []) (by repeat (first | with_reducible exact hM5.out | with_reducible exact hM5.out | with_reducible refine Mod.set ?_ (.inr (Nat.le_add_right _ _)) _ | with_reducible refine Mod.drewN ?_ _ | with_reducible refine Mod.drew ?_)) hm8 (by simp); have H8 := Hidden.mk (And.intro hi8 (And.intro hM8 hn8)); obtain ⟨p8, c8, rfl, hs8⟩ := hi8.slice_; clear hi8 hm8 hg8 hs8 hr8 hx8 hn8 hM8)
  all_goals go_wp2_with fail
  all_goals
    (try simp only [Exit.inBlock, Exit.then])
    refine bodyPost_ret (v := .tuple #[.slice p8 Z.length c8, ansV (0, 0, false)]) (by simp [results, Try.results47, go_sem, r0, r1, r2, x0, x1, x2]) rfl ⟨_, by rw [hZ], ?_, ?_, .inr (fun b hb => Nat.le_trans (show w.heap.size ≤ W5.heap.size by omega) (H8.out.2.2 b hb))⟩
    · refine ISl.mod (S := [w.heap.size + 1]) H8.out.1 ?_ (fun b hb hh => by have h1 := H8.out.2.2 b hb; simp at hh; subst hh; have h2 : W5.heap.size ≤ w.heap.size + 1 := h1; omega)
      repeat (first | with_reducible exact Mod.refl _ _ | with_reducible refine Mod.set ?_ (.inl (by simp)) _ | with_reducible refine Mod.drewN ?_ _ | with_reducible refine Mod.drew ?_)
    · repeat (first | with_reducible exact H8.out.2.1 | with_reducible refine Mod.set ?_ (.inr (Nat.le_add_right _ _)) _ | with_reducible refine Mod.drewN ?_ _ | with_reducible refine Mod.drew ?_)

set_option maxHeartbeats 4000000 in
set_option maxRecDepth 100000 in
theorem do11_add_yes1 {w : World} {v : Value} {l : List Int} (d k : Int) (h : ISl .u64 w v l) (hl : l.length ≤ 100000) (hs : l.Pairwise (· < ·)) (hd : 0 ≤ d ∧ d ≤ 255) (hm : d % 9 = 1) (hk : k ∉ l) :
    Calls Try.prog 47 #[v, .agg #[.int .u8 d, .int .u64 k]] w (Done11 w v (insL l k, 0, 0, false)) := by
  obtain ⟨pa, cap, rfl, -⟩ := h.slice_
  have HF := Hidden.mk (fun W (hW : Mod [] w W) => find11 k (h.news hW) (by omega) (rises_le hs))
  have H := Hidden.mk (And.intro h (And.intro hl hs))
  obtain ⟨hd0, hd1⟩ := hd
  obtain ⟨W0, hW0⟩ : ∃ W0, (w.alloc (.cells #[.int .u8 d, .int .u64 k] 70)).alloc (.cells #[.int .i64 0, .int .u64 0, .bool false] 72) = W0 := ⟨_, rfl⟩
  have hM0 : Mod [] w W0 := by rw [← hW0]; exact ((Mod.refl [] w).alloc _).alloc _
  have hs0 : W0.heap.size = w.heap.size + 2 := by rw [← hW0]; simp
  have hact : Blk W0 w.heap.size 70 #[.int .u8 d, .int .u64 k] := by rw [← hW0]; exact (Blk.new w _ _).alloc _
  have hans : Blk W0 (w.heap.size + 1) 72 #[.int .i64 0, .int .u64 0, .bool false] := by rw [← hW0]; exact Blk.new' (by simp) _ _
  have c0 : W0.cell? ⟨w.heap.size, 0, none⟩ = some (.int .u8 d) := hact.cell 0
  have c1 : W0.cell? ⟨w.heap.size, 1, none⟩ = some (.int .u64 k) := hact.cell 1
  have r0 : W0.cell? ⟨w.heap.size + 1, 0, none⟩ = some (.int .i64 0) := hans.cell 0
  have r1 : W0.cell? ⟨w.heap.size + 1, 1, none⟩ = some (.int .u64 0) := hans.cell 1
  have r2 : W0.cell? ⟨w.heap.size + 1, 2, none⟩ = some (.bool false) := hans.cell 2
  have hfr := hans.frozen 0
  have HM0 := Hidden.mk (And.intro hM0 hW0)
  have hfd := HF.out W0 hM0
  have HA := Hidden.mk (And.intro hact hans)
  clear h hl hs hM0 hact hans HF
  go_enter Try.func47, Try.ntmps47
  go_wp2_with fail
  refine hfd.mono ?_; rintro e w1 ⟨rfl, q, rfl⟩
  obtain ⟨W1, hW1⟩ : ∃ W1, (W0.drewN q).alloc (.cells #[.int .i64 0, .int .u64 0, .bool false] 72) = W1 := ⟨_, rfl⟩
  have hM1 : Mod [] W0 W1 := by rw [← hW1]; exact ((Mod.refl [] W0).drewN q).alloc _
  have hs1 : W1.heap.size = w.heap.size + 3 := by rw [← hW1]; simp [hs0]
  have hx : Blk W1 (w.heap.size + 2) 72 #[.int .i64 0, .int .u64 0, .bool false] := by rw [← hW1]; exact Blk.new' (by simp [hs0]) _ _
  have B := Hidden.mk (And.intro (HM0.out.1.trans hM1 (by simp)) (And.intro (HA.out.1.mod hM1 (by simp)) (And.intro (HA.out.2.mod hM1 (by simp)) hx)))
  clear c0 c1 r0 r1 r2 hfr
  have c0 : W1.cell? ⟨w.heap.size, 0, none⟩ = some (.int .u8 d) := B.out.2.1.cell 0
  have c1 : W1.cell? ⟨w.heap.size, 1, none⟩ = some (.int .u64 k) := B.out.2.1.cell 1
  have r0 : W1.cell? ⟨w.heap.size + 1, 0, none⟩ = some (.int .i64 0) := B.out.2.2.1.cell 0
  have r1 : W1.cell? ⟨w.heap.size + 1, 1, none⟩ = some (.int .u64 0) := B.out.2.2.1.cell 1
  have r2 : W1.cell? ⟨w.heap.size + 1, 2, none⟩ = some (.bool false) := B.out.2.2.1.cell 2
  have x0 : W1.cell? ⟨w.heap.size + 2, 0, none⟩ = some (.int .i64 0) := B.out.2.2.2.cell 0
  have x1 : W1.cell? ⟨w.heap.size + 2, 1, none⟩ = some (.int .u64 0) := B.out.2.2.2.cell 1
  have x2 : W1.cell? ⟨w.heap.size + 2, 2, none⟩ = some (.bool false) := B.out.2.2.2.cell 2
  have hfr0 := B.out.2.2.1.frozen 0
  have hfr1 := B.out.2.2.1.frozen 1
  have hfr2 := B.out.2.2.1.frozen 2
  have hfx0 := B.out.2.2.2.frozen 0
  have hfx1 := B.out.2.2.2.frozen 1
  have hfx2 := B.out.2.2.2.frozen 2
  clear hM1 hx
  rw [decide_eq_false hk]
  have HC := Hidden.mk (fun W (hW : Mod [] w W) => add11n k (H.out.1.news hW) (by have := H.out.2.1; omega) (rises_le H.out.2.2))
  rw [if_neg hk] at HC
  obtain ⟨Z, hZ⟩ : ∃ Z, insL l k = Z := ⟨_, rfl⟩
  have HNE : Hidden ((insL l k).length ≠ l.length) := ⟨by unfold insL; have := rk_le l k; simp; omega⟩
  clear hk

  go_wp2_with fail
  obtain ⟨W5, hW5⟩ : ∃ W5, ((W1.setCell ⟨w.heap.size + 2, 0, none⟩ (.int .i64 0)).setCell ⟨w.heap.size + 2, 1, none⟩ (.int .u64 0)).setCell ⟨w.heap.size + 2, 2, none⟩ (.bool false) = W5 := ⟨_, rfl⟩
  have hx5 : Blk W5 (w.heap.size + 2) 72 #[.int .i64 0, .int .u64 0, .bool false] := by rw [← hW5]; simpa using ((B.out.2.2.2.set 0 (.int .i64 0)).set 1 (.int .u64 0)).set 2 (.bool false)
  have hr5 : Blk W5 (w.heap.size + 1) 72 #[.int .i64 0, .int .u64 0, .bool false] := by rw [← hW5]; exact ((B.out.2.2.1.far (by show w.heap.size + 1 ≠ w.heap.size + 2; omega) _).far (by show w.heap.size + 1 ≠ w.heap.size + 2; omega) _).far (by show w.heap.size + 1 ≠ w.heap.size + 2; omega) _
  have hM5 : Mod [] w W5 := by
    rw [← hW5]
    repeat (first | with_reducible exact B.out.1 | with_reducible refine Mod.set ?_ (.inr (Nat.le_add_right _ _)) _ | with_reducible refine Mod.drewN ?_ _ | with_reducible refine Mod.drew ?_)
  clear c0 c1 r0 r1 r2 x0 x1 x2 hfr0 hfr1 hfr2 hfx0 hfx1 hfx2
  have r0 : W5.cell? ⟨w.heap.size + 1, 0, none⟩ = some (.int .i64 0) := hr5.cell 0
  have r1 : W5.cell? ⟨w.heap.size + 1, 1, none⟩ = some (.int .u64 0) := hr5.cell 1
  have r2 : W5.cell? ⟨w.heap.size + 1, 2, none⟩ = some (.bool false) := hr5.cell 2
  have x0 : W5.cell? ⟨w.heap.size + 2, 0, none⟩ = some (.int .i64 0) := hx5.cell 0
  have x1 : W5.cell? ⟨w.heap.size + 2, 1, none⟩ = some (.int .u64 0) := hx5.cell 1
  have x2 : W5.cell? ⟨w.heap.size + 2, 2, none⟩ = some (.bool false) := hx5.cell 2
  have hfr0 := hr5.frozen 0
  have hfr1 := hr5.frozen 1
  have hfr2 := hr5.frozen 2
  have hM5 := Hidden.mk hM5
  have k1 : W5.cell? ⟨w.heap.size, 1, none⟩ = some (.int .u64 k) := by rw [← hW5]; exact ((((B.out.2.1.far (by show w.heap.size ≠ w.heap.size + 2; omega) _).far (by show w.heap.size ≠ w.heap.size + 2; omega) _).far (by show w.heap.size ≠ w.heap.size + 2; omega) _)).cell 1
  have hs5 : w.heap.size + 2 < W5.heap.size := hx5.lt
  have HB5 := Hidden.mk (And.intro hr5 hx5)
  clear hx5 hr5

  go_wp2_with fail
  trace_state
  go_region_with (go_at_call 55; refine (HC.out _ (by repeat (first | with_reducible exact hM5.out | with_reducible exact hM5.out | with_reducible refine Mod.set ?_ (.inr (Nat.le_add_right _ _)) _ | with_reducible refine Mod.drewN ?_ _ | with_reducible refine Mod.drew ?_))).mono ?_; rintro e w8 ⟨v8, rfl, hi8, hm8, hg8⟩; have hr8 : Blk w8 (w.heap.size + 1) 72 #[.int .i64 0, .int .u64 0, .bool false] := (hm8.block _ (show w.heap.size + 1 < _ from HB5.out.1.lt) (by simp)).trans HB5.out.1; have hx8 : Blk w8 (w.heap.size + 2) 72 #[.int .i64 0, .int .u64 0, .bool false] := (hm8.block _ (show w.heap.size + 2 < _ from HB5.out.2.lt) (by simp)).trans HB5.out.2; clear r0 r1 r2 x0 x1 x2 hfr0 hfr1 hfr2 k1 hW5; have r0 : w8.cell? ⟨w.heap.size + 1, 0, none⟩ = some (.int .i64 0) := hr8.cell 0; have fr0 := hr8.frozen 0; have r1 : w8.cell? ⟨w.heap.size + 1, 1, none⟩ = some (.int .u64 0) := hr8.cell 1; have fr1 := hr8.frozen 1; have r2 : w8.cell? ⟨w.heap.size + 1, 2, none⟩ = some (.bool false) := hr8.cell 2; have fr2 := hr8.frozen 2; have x0 : w8.cell? ⟨w.heap.size + 2, 0, none⟩ = some (.int .i64 0) := hx8.cell 0; have fx0 := hx8.frozen 0; have x1 : w8.cell? ⟨w.heap.size + 2, 1, none⟩ = some (.int .u64 0) := hx8.cell 1; have fx1 := hx8.frozen 1; have x2 : w8.cell? ⟨w.heap.size + 2, 2, none⟩ = some (.bool false) := hx8.cell 2; have fx2 := hx8.frozen 2; have hl8 : w.heap.size + 2 < w8.heap.size := hx8.lt; have hn8 : ∀ b ∈ rb v8, W5.heap.size ≤ b := newOf hi8 hg8 HNE.out; have hM8 : Mod [] w w8 := Mod.trans (S := []) (T := []) (by repeat (first | with_reducible exact hM5.out | with_reducible exact hM5.out | with_reducible refine Mod.set ?_ (.inr (Nat.le_add_right _ _)) _ | with_reducible refine Mod.drewN ?_ _ | with_reducible refine Mod.drew ?_)) hm8 (by simp); have H8 := Hidden.mk (And.intro hi8 (And.intro hM8 hn8)); obtain ⟨p8, c8, rfl, hs8⟩ := hi8.slice_; clear hi8 hm8 hg8 hs8 hr8 hx8 hn8 hM8)
  all_goals go_wp2_with fail
  all_goals
    (try simp only [Exit.inBlock, Exit.then])
    refine bodyPost_ret (v := .tuple #[.slice p8 Z.length c8, ansV (0, 0, false)]) (by simp [results, Try.results47, go_sem, r0, r1, r2, x0, x1, x2]) rfl ⟨_, by rw [hZ], ?_, ?_, .inr (fun b hb => Nat.le_trans (show w.heap.size ≤ W5.heap.size by omega) (H8.out.2.2 b hb))⟩
    · refine ISl.mod (S := [w.heap.size + 1]) H8.out.1 ?_ (fun b hb hh => by have h1 := H8.out.2.2 b hb; simp at hh; subst hh; have h2 : W5.heap.size ≤ w.heap.size + 1 := h1; omega)
      repeat (first | with_reducible exact Mod.refl _ _ | with_reducible refine Mod.set ?_ (.inl (by simp)) _ | with_reducible refine Mod.drewN ?_ _ | with_reducible refine Mod.drew ?_)
    · repeat (first | with_reducible exact H8.out.2.1 | with_reducible refine Mod.set ?_ (.inr (Nat.le_add_right _ _)) _ | with_reducible refine Mod.drewN ?_ _ | with_reducible refine Mod.drew ?_)

set_option maxHeartbeats 4000000 in
set_option maxRecDepth 100000 in
theorem do11_drop_yes {w : World} {v : Value} {l : List Int} (d k : Int) (h : ISl .u64 w v l) (hl : l.length ≤ 100000) (hs : l.Pairwise (· < ·)) (hd : 0 ≤ d ∧ d ≤ 255) (hm : d % 9 = 2) (hk : k ∈ l) :
    Calls Try.prog 47 #[v, .agg #[.int .u8 d, .int .u64 k]] w (Done11 w v (delL l k, 0, 0, false)) := by
  obtain ⟨pa, cap, rfl, -⟩ := h.slice_
  have HF := Hidden.mk (fun W (hW : Mod [] w W) => find11 k (h.news hW) (by omega) (rises_le hs))
  have H := Hidden.mk (And.intro h (And.intro hl hs))
  obtain ⟨hd0, hd1⟩ := hd
  obtain ⟨W0, hW0⟩ : ∃ W0, (w.alloc (.cells #[.int .u8 d, .int .u64 k] 70)).alloc (.cells #[.int .i64 0, .int .u64 0, .bool false] 72) = W0 := ⟨_, rfl⟩
  have hM0 : Mod [] w W0 := by rw [← hW0]; exact ((Mod.refl [] w).alloc _).alloc _
  have hs0 : W0.heap.size = w.heap.size + 2 := by rw [← hW0]; simp
  have hact : Blk W0 w.heap.size 70 #[.int .u8 d, .int .u64 k] := by rw [← hW0]; exact (Blk.new w _ _).alloc _
  have hans : Blk W0 (w.heap.size + 1) 72 #[.int .i64 0, .int .u64 0, .bool false] := by rw [← hW0]; exact Blk.new' (by simp) _ _
  have c0 : W0.cell? ⟨w.heap.size, 0, none⟩ = some (.int .u8 d) := hact.cell 0
  have c1 : W0.cell? ⟨w.heap.size, 1, none⟩ = some (.int .u64 k) := hact.cell 1
  have r0 : W0.cell? ⟨w.heap.size + 1, 0, none⟩ = some (.int .i64 0) := hans.cell 0
  have r1 : W0.cell? ⟨w.heap.size + 1, 1, none⟩ = some (.int .u64 0) := hans.cell 1
  have r2 : W0.cell? ⟨w.heap.size + 1, 2, none⟩ = some (.bool false) := hans.cell 2
  have hfr := hans.frozen 0
  have HM0 := Hidden.mk (And.intro hM0 hW0)
  have hfd := HF.out W0 hM0
  have HA := Hidden.mk (And.intro hact hans)
  clear h hl hs hM0 hact hans HF
  go_enter Try.func47, Try.ntmps47
  go_wp2_with fail
  refine hfd.mono ?_; rintro e w1 ⟨rfl, q, rfl⟩
  obtain ⟨W1, hW1⟩ : ∃ W1, (W0.drewN q).alloc (.cells #[.int .i64 0, .int .u64 0, .bool false] 72) = W1 := ⟨_, rfl⟩
  have hM1 : Mod [] W0 W1 := by rw [← hW1]; exact ((Mod.refl [] W0).drewN q).alloc _
  have hs1 : W1.heap.size = w.heap.size + 3 := by rw [← hW1]; simp [hs0]
  have hx : Blk W1 (w.heap.size + 2) 72 #[.int .i64 0, .int .u64 0, .bool false] := by rw [← hW1]; exact Blk.new' (by simp [hs0]) _ _
  have B := Hidden.mk (And.intro (HM0.out.1.trans hM1 (by simp)) (And.intro (HA.out.1.mod hM1 (by simp)) (And.intro (HA.out.2.mod hM1 (by simp)) hx)))
  clear c0 c1 r0 r1 r2 hfr
  have c0 : W1.cell? ⟨w.heap.size, 0, none⟩ = some (.int .u8 d) := B.out.2.1.cell 0
  have c1 : W1.cell? ⟨w.heap.size, 1, none⟩ = some (.int .u64 k) := B.out.2.1.cell 1
  have r0 : W1.cell? ⟨w.heap.size + 1, 0, none⟩ = some (.int .i64 0) := B.out.2.2.1.cell 0
  have r1 : W1.cell? ⟨w.heap.size + 1, 1, none⟩ = some (.int .u64 0) := B.out.2.2.1.cell 1
  have r2 : W1.cell? ⟨w.heap.size + 1, 2, none⟩ = some (.bool false) := B.out.2.2.1.cell 2
  have x0 : W1.cell? ⟨w.heap.size + 2, 0, none⟩ = some (.int .i64 0) := B.out.2.2.2.cell 0
  have x1 : W1.cell? ⟨w.heap.size + 2, 1, none⟩ = some (.int .u64 0) := B.out.2.2.2.cell 1
  have x2 : W1.cell? ⟨w.heap.size + 2, 2, none⟩ = some (.bool false) := B.out.2.2.2.cell 2
  have hfr0 := B.out.2.2.1.frozen 0
  have hfr1 := B.out.2.2.1.frozen 1
  have hfr2 := B.out.2.2.1.frozen 2
  have hfx0 := B.out.2.2.2.frozen 0
  have hfx1 := B.out.2.2.2.frozen 1
  have hfx2 := B.out.2.2.2.frozen 2
  clear hM1 hx
  rw [decide_eq_true hk]
  have HC := Hidden.mk (fun W (hW : Mod [] w W) => drop11n k (H.out.1.news hW) (by have := H.out.2.1; omega) (rises_le H.out.2.2))
  rw [if_pos hk] at HC
  obtain ⟨Z, hZ⟩ : ∃ Z, delL l k = Z := ⟨_, rfl⟩
  have HNE : Hidden ((delL l k).length ≠ l.length) := ⟨by have := delL_len hk H.out.2.2; omega⟩
  clear hk

  go_wp2_with fail
  obtain ⟨W5, hW5⟩ : ∃ W5, ((W1.setCell ⟨w.heap.size + 2, 0, none⟩ (.int .i64 0)).setCell ⟨w.heap.size + 2, 1, none⟩ (.int .u64 0)).setCell ⟨w.heap.size + 2, 2, none⟩ (.bool false) = W5 := ⟨_, rfl⟩
  have hx5 : Blk W5 (w.heap.size + 2) 72 #[.int .i64 0, .int .u64 0, .bool false] := by rw [← hW5]; simpa using ((B.out.2.2.2.set 0 (.int .i64 0)).set 1 (.int .u64 0)).set 2 (.bool false)
  have hr5 : Blk W5 (w.heap.size + 1) 72 #[.int .i64 0, .int .u64 0, .bool false] := by rw [← hW5]; exact ((B.out.2.2.1.far (by show w.heap.size + 1 ≠ w.heap.size + 2; omega) _).far (by show w.heap.size + 1 ≠ w.heap.size + 2; omega) _).far (by show w.heap.size + 1 ≠ w.heap.size + 2; omega) _
  have hM5 : Mod [] w W5 := by
    rw [← hW5]
    repeat (first | with_reducible exact B.out.1 | with_reducible refine Mod.set ?_ (.inr (Nat.le_add_right _ _)) _ | with_reducible refine Mod.drewN ?_ _ | with_reducible refine Mod.drew ?_)
  clear c0 c1 r0 r1 r2 x0 x1 x2 hfr0 hfr1 hfr2 hfx0 hfx1 hfx2
  have r0 : W5.cell? ⟨w.heap.size + 1, 0, none⟩ = some (.int .i64 0) := hr5.cell 0
  have r1 : W5.cell? ⟨w.heap.size + 1, 1, none⟩ = some (.int .u64 0) := hr5.cell 1
  have r2 : W5.cell? ⟨w.heap.size + 1, 2, none⟩ = some (.bool false) := hr5.cell 2
  have x0 : W5.cell? ⟨w.heap.size + 2, 0, none⟩ = some (.int .i64 0) := hx5.cell 0
  have x1 : W5.cell? ⟨w.heap.size + 2, 1, none⟩ = some (.int .u64 0) := hx5.cell 1
  have x2 : W5.cell? ⟨w.heap.size + 2, 2, none⟩ = some (.bool false) := hx5.cell 2
  have hfr0 := hr5.frozen 0
  have hfr1 := hr5.frozen 1
  have hfr2 := hr5.frozen 2
  have hM5 := Hidden.mk hM5
  have k1 : W5.cell? ⟨w.heap.size, 1, none⟩ = some (.int .u64 k) := by rw [← hW5]; exact ((((B.out.2.1.far (by show w.heap.size ≠ w.heap.size + 2; omega) _).far (by show w.heap.size ≠ w.heap.size + 2; omega) _).far (by show w.heap.size ≠ w.heap.size + 2; omega) _)).cell 1
  have hs5 : w.heap.size + 2 < W5.heap.size := hx5.lt
  have HB5 := Hidden.mk (And.intro hr5 hx5)
  clear hx5 hr5

  go_wp2_with fail
  trace_state
  go_region_with (go_at_call 31; refine (HC.out _ (by repeat (first | with_reducible exact hM5.out | with_reducible exact hM5.out | with_reducible refine Mod.set ?_ (.inr (Nat.le_add_right _ _)) _ | with_reducible refine Mod.drewN ?_ _ | with_reducible refine Mod.drew ?_))).mono ?_; rintro e w8 ⟨v8, rfl, hi8, hm8, hg8⟩; have hr8 : Blk w8 (w.heap.size + 1) 72 #[.int .i64 0, .int .u64 0, .bool false] := (hm8.block _ (show w.heap.size + 1 < _ from HB5.out.1.lt) (by simp)).trans HB5.out.1; have hx8 : Blk w8 (w.heap.size + 2) 72 #[.int .i64 0, .int .u64 0, .bool false] := (hm8.block _ (show w.heap.size + 2 < _ from HB5.out.2.lt) (by simp)).trans HB5.out.2; clear r0 r1 r2 x0 x1 x2 hfr0 hfr1 hfr2 k1 hW5; have r0 : w8.cell? ⟨w.heap.size + 1, 0, none⟩ = some (.int .i64 0) := hr8.cell 0; have fr0 := hr8.frozen 0; have r1 : w8.cell? ⟨w.heap.size + 1, 1, none⟩ = some (.int .u64 0) := hr8.cell 1; have fr1 := hr8.frozen 1; have r2 : w8.cell? ⟨w.heap.size + 1, 2, none⟩ = some (.bool false) := hr8.cell 2; have fr2 := hr8.frozen 2; have x0 : w8.cell? ⟨w.heap.size + 2, 0, none⟩ = some (.int .i64 0) := hx8.cell 0; have fx0 := hx8.frozen 0; have x1 : w8.cell? ⟨w.heap.size + 2, 1, none⟩ = some (.int .u64 0) := hx8.cell 1; have fx1 := hx8.frozen 1; have x2 : w8.cell? ⟨w.heap.size + 2, 2, none⟩ = some (.bool false) := hx8.cell 2; have fx2 := hx8.frozen 2; have hl8 : w.heap.size + 2 < w8.heap.size := hx8.lt; have hn8 : ∀ b ∈ rb v8, W5.heap.size ≤ b := newOf hi8 hg8 HNE.out; have hM8 : Mod [] w w8 := Mod.trans (S := []) (T := []) (by repeat (first | with_reducible exact hM5.out | with_reducible exact hM5.out | with_reducible refine Mod.set ?_ (.inr (Nat.le_add_right _ _)) _ | with_reducible refine Mod.drewN ?_ _ | with_reducible refine Mod.drew ?_)) hm8 (by simp); have H8 := Hidden.mk (And.intro hi8 (And.intro hM8 hn8)); obtain ⟨p8, c8, rfl, hs8⟩ := hi8.slice_; clear hi8 hm8 hg8 hs8 hr8 hx8 hn8 hM8)
  all_goals go_wp2_with fail
  all_goals
    (try simp only [Exit.inBlock, Exit.then])
    refine bodyPost_ret (v := .tuple #[.slice p8 Z.length c8, ansV (0, 0, false)]) (by simp [results, Try.results47, go_sem, r0, r1, r2, x0, x1, x2]) rfl ⟨_, by rw [hZ], ?_, ?_, .inr (fun b hb => Nat.le_trans (show w.heap.size ≤ W5.heap.size by omega) (H8.out.2.2 b hb))⟩
    · refine ISl.mod (S := [w.heap.size + 1]) H8.out.1 ?_ (fun b hb hh => by have h1 := H8.out.2.2 b hb; simp at hh; subst hh; have h2 : W5.heap.size ≤ w.heap.size + 1 := h1; omega)
      repeat (first | with_reducible exact Mod.refl _ _ | with_reducible refine Mod.set ?_ (.inl (by simp)) _ | with_reducible refine Mod.drewN ?_ _ | with_reducible refine Mod.drew ?_)
    · repeat (first | with_reducible exact H8.out.2.1 | with_reducible refine Mod.set ?_ (.inr (Nat.le_add_right _ _)) _ | with_reducible refine Mod.drewN ?_ _ | with_reducible refine Mod.drew ?_)

set_option maxHeartbeats 4000000 in
set_option maxRecDepth 100000 in
theorem do11_clear {w : World} {v : Value} {l : List Int} (d k : Int) (h : ISl .u64 w v l) (hl : l.length ≤ 100000) (hs : l.Pairwise (· < ·)) (hd : 0 ≤ d ∧ d ≤ 255) (hm : d % 9 = 8) :
    Calls Try.prog 47 #[v, .agg #[.int .u8 d, .int .u64 k]] w (Done11 w v ([], 0, 0, false)) := by
  obtain ⟨pa, cap, rfl, -⟩ := h.slice_
  have HF := Hidden.mk (fun W (hW : Mod [] w W) => find11 k (h.news hW) (by omega) (rises_le hs))
  have H := Hidden.mk (And.intro h (And.intro hl hs))
  obtain ⟨hd0, hd1⟩ := hd
  obtain ⟨W0, hW0⟩ : ∃ W0, (w.alloc (.cells #[.int .u8 d, .int .u64 k] 70)).alloc (.cells #[.int .i64 0, .int .u64 0, .bool false] 72) = W0 := ⟨_, rfl⟩
  have hM0 : Mod [] w W0 := by rw [← hW0]; exact ((Mod.refl [] w).alloc _).alloc _
  have hs0 : W0.heap.size = w.heap.size + 2 := by rw [← hW0]; simp
  have hact : Blk W0 w.heap.size 70 #[.int .u8 d, .int .u64 k] := by rw [← hW0]; exact (Blk.new w _ _).alloc _
  have hans : Blk W0 (w.heap.size + 1) 72 #[.int .i64 0, .int .u64 0, .bool false] := by rw [← hW0]; exact Blk.new' (by simp) _ _
  have c0 : W0.cell? ⟨w.heap.size, 0, none⟩ = some (.int .u8 d) := hact.cell 0
  have c1 : W0.cell? ⟨w.heap.size, 1, none⟩ = some (.int .u64 k) := hact.cell 1
  have r0 : W0.cell? ⟨w.heap.size + 1, 0, none⟩ = some (.int .i64 0) := hans.cell 0
  have r1 : W0.cell? ⟨w.heap.size + 1, 1, none⟩ = some (.int .u64 0) := hans.cell 1
  have r2 : W0.cell? ⟨w.heap.size + 1, 2, none⟩ = some (.bool false) := hans.cell 2
  have hfr := hans.frozen 0
  have HM0 := Hidden.mk (And.intro hM0 hW0)
  have hfd := HF.out W0 hM0
  have HA := Hidden.mk (And.intro hact hans)
  clear h hl hs hM0 hact hans HF
  go_enter Try.func47, Try.ntmps47
  go_wp2_with fail
  refine hfd.mono ?_; rintro e w1 ⟨rfl, q, rfl⟩
  obtain ⟨W1, hW1⟩ : ∃ W1, (W0.drewN q).alloc (.cells #[.int .i64 0, .int .u64 0, .bool false] 72) = W1 := ⟨_, rfl⟩
  have hM1 : Mod [] W0 W1 := by rw [← hW1]; exact ((Mod.refl [] W0).drewN q).alloc _
  have hs1 : W1.heap.size = w.heap.size + 3 := by rw [← hW1]; simp [hs0]
  have hx : Blk W1 (w.heap.size + 2) 72 #[.int .i64 0, .int .u64 0, .bool false] := by rw [← hW1]; exact Blk.new' (by simp [hs0]) _ _
  have B := Hidden.mk (And.intro (HM0.out.1.trans hM1 (by simp)) (And.intro (HA.out.1.mod hM1 (by simp)) (And.intro (HA.out.2.mod hM1 (by simp)) hx)))
  clear c0 c1 r0 r1 r2 hfr
  have c0 : W1.cell? ⟨w.heap.size, 0, none⟩ = some (.int .u8 d) := B.out.2.1.cell 0
  have c1 : W1.cell? ⟨w.heap.size, 1, none⟩ = some (.int .u64 k) := B.out.2.1.cell 1
  have r0 : W1.cell? ⟨w.heap.size + 1, 0, none⟩ = some (.int .i64 0) := B.out.2.2.1.cell 0
  have r1 : W1.cell? ⟨w.heap.size + 1, 1, none⟩ = some (.int .u64 0) := B.out.2.2.1.cell 1
  have r2 : W1.cell? ⟨w.heap.size + 1, 2, none⟩ = some (.bool false) := B.out.2.2.1.cell 2
  have x0 : W1.cell? ⟨w.heap.size + 2, 0, none⟩ = some (.int .i64 0) := B.out.2.2.2.cell 0
  have x1 : W1.cell? ⟨w.heap.size + 2, 1, none⟩ = some (.int .u64 0) := B.out.2.2.2.cell 1
  have x2 : W1.cell? ⟨w.heap.size + 2, 2, none⟩ = some (.bool false) := B.out.2.2.2.cell 2
  have hfr0 := B.out.2.2.1.frozen 0
  have hfr1 := B.out.2.2.1.frozen 1
  have hfr2 := B.out.2.2.1.frozen 2
  have hfx0 := B.out.2.2.2.frozen 0
  have hfx1 := B.out.2.2.2.frozen 1
  have hfx2 := B.out.2.2.2.frozen 2
  clear hM1 hx
  obtain ⟨b, hb⟩ : ∃ b, decide (k ∈ l) = b := ⟨_, rfl⟩
  rw [hb]
  clear hb

  go_wp2_with fail
  obtain ⟨W5, hW5⟩ : ∃ W5, ((W1.setCell ⟨w.heap.size + 2, 0, none⟩ (.int .i64 0)).setCell ⟨w.heap.size + 2, 1, none⟩ (.int .u64 0)).setCell ⟨w.heap.size + 2, 2, none⟩ (.bool false) = W5 := ⟨_, rfl⟩
  have hx5 : Blk W5 (w.heap.size + 2) 72 #[.int .i64 0, .int .u64 0, .bool false] := by rw [← hW5]; simpa using ((B.out.2.2.2.set 0 (.int .i64 0)).set 1 (.int .u64 0)).set 2 (.bool false)
  have hr5 : Blk W5 (w.heap.size + 1) 72 #[.int .i64 0, .int .u64 0, .bool false] := by rw [← hW5]; exact ((B.out.2.2.1.far (by show w.heap.size + 1 ≠ w.heap.size + 2; omega) _).far (by show w.heap.size + 1 ≠ w.heap.size + 2; omega) _).far (by show w.heap.size + 1 ≠ w.heap.size + 2; omega) _
  have hM5 : Mod [] w W5 := by
    rw [← hW5]
    repeat (first | with_reducible exact B.out.1 | with_reducible refine Mod.set ?_ (.inr (Nat.le_add_right _ _)) _ | with_reducible refine Mod.drewN ?_ _ | with_reducible refine Mod.drew ?_)
  clear c0 c1 r0 r1 r2 x0 x1 x2 hfr0 hfr1 hfr2 hfx0 hfx1 hfx2
  have r0 : W5.cell? ⟨w.heap.size + 1, 0, none⟩ = some (.int .i64 0) := hr5.cell 0
  have r1 : W5.cell? ⟨w.heap.size + 1, 1, none⟩ = some (.int .u64 0) := hr5.cell 1
  have r2 : W5.cell? ⟨w.heap.size + 1, 2, none⟩ = some (.bool false) := hr5.cell 2
  have x0 : W5.cell? ⟨w.heap.size + 2, 0, none⟩ = some (.int .i64 0) := hx5.cell 0
  have x1 : W5.cell? ⟨w.heap.size + 2, 1, none⟩ = some (.int .u64 0) := hx5.cell 1
  have x2 : W5.cell? ⟨w.heap.size + 2, 2, none⟩ = some (.bool false) := hx5.cell 2
  have hfr0 := hr5.frozen 0
  have hfr1 := hr5.frozen 1
  have hfr2 := hr5.frozen 2
  have hM5 := Hidden.mk hM5
  clear hx5 hr5

  go_wp2_with fail
  (try go_region)
  all_goals go_wp2_with fail
  all_goals
    (try simp only [Exit.inBlock, Exit.then])
    refine bodyPost_ret (v := .tuple #[.slice none 0 0, ansV (0, 0, false)]) (by simp [results, Try.results47, go_sem, r0, r1, r2, x0, x1, x2]) rfl ⟨_, rfl, ISl.nil_ _ _, ?_, .inr (fun b hb => by simp [rb, Value.ownBlock] at hb)⟩
    repeat (first | with_reducible exact hM5.out | with_reducible refine Mod.set ?_ (.inr (Nat.le_add_right _ _)) _ | with_reducible refine Mod.drewN ?_ _ | with_reducible refine Mod.drew ?_)

theorem do11 {w : World} {v : Value} {l : List Int} (d k : Int) (h : ISl .u64 w v l) (hl : l.length ≤ 100000) (hs : l.Pairwise (· < ·)) (hd : 0 ≤ d ∧ d ≤ 255) :
    Calls Try.prog 47 #[v, .agg #[.int .u8 d, .int .u64 k]] w (Done11 w v (actL l d k)) := by
  unfold actL
  rcases (show d % 9 = 0 ∨ d % 9 = 1 ∨ d % 9 = 2 ∨ d % 9 = 3 ∨ d % 9 = 4 ∨ d % 9 = 5 ∨ d % 9 = 6 ∨ d % 9 = 7 ∨ d % 9 = 8 by omega) with hm | hm | hm | hm | hm | hm | hm | hm | hm
  · rw [if_pos (.inl hm)]
    by_cases hk : k ∈ l
    · rw [if_pos hk]; exact do11_add_no0 d k h hl hs hd hm hk
    · rw [if_neg hk]; exact do11_add_yes0 d k h hl hs hd hm hk
  · rw [if_pos (.inr hm)]
    by_cases hk : k ∈ l
    · rw [if_pos hk]; exact do11_add_no1 d k h hl hs hd hm hk
    · rw [if_neg hk]; exact do11_add_yes1 d k h hl hs hd hm hk
  · rw [if_neg (by omega), if_pos hm]
    by_cases hk : k ∈ l
    · rw [if_pos hk]; exact do11_drop_yes d k h hl hs hd hm hk
    · rw [if_neg hk]; exact do11_drop_no d k h hl hs hd hm hk
  · rw [if_neg (by omega), if_neg (by omega), if_pos hm]
    exact do11_has d k h hl hs hd hm _ rfl
  · rw [if_neg (by omega), if_neg (by omega), if_neg (by omega), if_pos hm]
    exact do11_next d k h hl hs hd hm _ _ rfl
  · rw [if_neg (by omega), if_neg (by omega), if_neg (by omega), if_neg (by omega), if_pos hm]
    exact do11_prev d k h hl hs hd hm _ _ rfl
  · rw [if_neg (by omega), if_neg (by omega), if_neg (by omega), if_neg (by omega), if_neg (by omega), if_pos hm]
    exact do11_min d k h hl hs hd hm _ _ rfl
  · rw [if_neg (by omega), if_neg (by omega), if_neg (by omega), if_neg (by omega), if_neg (by omega), if_neg (by omega), if_pos hm]
    exact do11_max d k h hl hs hd hm _ _ rfl
  · rw [if_neg (by omega), if_neg (by omega), if_neg (by omega), if_neg (by omega), if_neg (by omega), if_neg (by omega), if_neg (by omega)]
    exact do11_clear d k h hl hs hd hm
end Go.Proofs.Ytfioekkegihkoaa
