/- stepstonelaw14.do: an act on the structure. -/
import Derived.Test.YtfioekkegihkoaaXfP
import Derived.Test.YtfioekkegihkoaaRef11D
namespace Go.Proofs.Ytfioekkegihkoaa
open Go.RowKit
set_option linter.unusedVariables false
set_option linter.unusedSimpArgs false
/-- The keys then, the answer. -/
def act14 (ks : List Int) (limit : Nat) (d k : Int) : List Int × Int × (Int × Bool) :=
  if d % 9 = 0 ∨ d % 9 = 1 then (insK ks limit k, insE ks limit k, 0, false)
  else if d % 9 = 2 then (if k ∈ ks then delL ks k else ks, if k ∈ ks then 0 else 3, 0, false)
  else if d % 9 = 3 then (ks, 0, 0, decide (k ∈ ks))
  else if d % 9 = 4 then (ks, 0, selL ks (rk ks k))
  else if d % 9 = 5 then (ks, 0, prevL64 ks k)
  else if d % 9 = 6 then (ks, 0, selL ks 0)
  else if d % 9 = 7 then (ks, 0, selL ks ((ks.length : Int) - 1))
  else ([], 0, 0, false)
def Did14 (w0 w : World) (xb limit : Nat) (P : List Nat) (r : List Int × Int × (Int × Bool)) (c' : Nat) (e : Ending) (w' : World) : Prop := e = .returned (ansV r.2) ∧ XM w0 w' xb limit r.1 c' P ∧ XK w0 P w w'

set_option maxHeartbeats 4000000 in
set_option maxRecDepth 100000 in
theorem do14_ins0 {w0 w : World} {xb limit c : Nat} {ks : List Int} {P : List Nat} (d k : Int) (h : XM w0 w xb limit ks c P) (hk : 0 ≤ k ∧ k < 18446744073709551616) (hd : 0 ≤ d ∧ d ≤ 255) (hm : d % 9 = 0) :
    Calls Try.prog 48 #[.pointer (some ⟨xb, 0, none⟩), .agg #[.int .u8 d, .int .u64 k]] w (Did14 w0 w xb limit P (insK ks limit k, insE ks limit k, 0, false) 1000) := by
  obtain ⟨hd0, hd1⟩ := hd
  have hw0 := h.facts.2.2.2.2.size
  have HPL := Hidden.mk h.plt
  obtain ⟨Wa, hWa⟩ : ∃ Wa, w.alloc (.cells #[.int .u8 d, .int .u64 k] 70) = Wa := ⟨_, rfl⟩
  obtain ⟨Wb, hWb⟩ : ∃ Wb, Wa.alloc (.cells #[.int .i64 0, .int .u64 0, .bool false] 72) = Wb := ⟨_, rfl⟩
  obtain ⟨W0, hW0⟩ : ∃ W0, Wb.alloc (.cells #[.int .i64 0, .int .u64 0, .bool false] 72) = W0 := ⟨_, rfl⟩
  have hma : Mod [] w Wa := by rw [← hWa]; exact (Mod.refl [] w).alloc _
  have hmb : Mod [] Wa Wb := by rw [← hWb]; exact (Mod.refl [] Wa).alloc _
  have hmc : Mod [] Wb W0 := by rw [← hW0]; exact (Mod.refl [] Wb).alloc _
  have hsa : Wa.heap.size = w.heap.size + 1 := by rw [← hWa]; simp
  have hsb : Wb.heap.size = w.heap.size + 1 + 1 := by rw [← hWb]; simp [hsa]
  have hs0 : W0.heap.size = w.heap.size + 3 := by rw [← hW0]; simp [hsb]
  have hact : Blk W0 w.heap.size 70 #[.int .u8 d, .int .u64 k] := by rw [← hW0, ← hWb, ← hWa]; exact ((Blk.new w _ _).alloc _).alloc _
  have hans : Blk W0 (w.heap.size + 1) 72 #[.int .i64 0, .int .u64 0, .bool false] := by rw [← hW0, ← hWb]; exact (Blk.new' (by rw [hsa]) _ _).alloc _
  have hx : Blk W0 (w.heap.size + 1 + 1) 72 #[.int .i64 0, .int .u64 0, .bool false] := by rw [← hW0]; exact Blk.new' (by rw [hsb]) _ _
  have h3 := ((h.guard (q := w.heap.size) hma (Nat.le_refl _) (by omega)).guard (q := w.heap.size + 1) hmb (by omega) (by omega)).guard (q := w.heap.size + 1 + 1) hmc (by omega) (by omega)
  have hM0 := (hma.trans hmb (by simp)).trans hmc (by simp)
  clear hma hmb hmc h
  rw [← hWb, ← hWa] at hW0
  clear hWa hWb hsa hsb
  obtain ⟨G, hG⟩ : ∃ G, (w.heap.size + 1 + 1) :: (w.heap.size + 1) :: w.heap.size :: P = G := ⟨_, rfl⟩
  rw [hG] at h3
  have HG : Hidden ((w.heap.size ∈ G ∧ w.heap.size + 1 ∈ G ∧ w.heap.size + 1 + 1 ∈ G) ∧ ∀ q ∈ P, q ∈ G) := ⟨by rw [← hG]; simp; exact fun q hq => .inr (.inr (.inr hq))⟩
  clear hG
  have c0 : W0.cell? ⟨w.heap.size, 0, none⟩ = some (.int .u8 d) := hact.cell 0
  have c1 : W0.cell? ⟨w.heap.size, 1, none⟩ = some (.int .u64 k) := hact.cell 1
  have x0 : W0.cell? ⟨w.heap.size + 1 + 1, 0, none⟩ = some (.int .i64 0) := hx.cell 0
  have x1 : W0.cell? ⟨w.heap.size + 1 + 1, 1, none⟩ = some (.int .u64 0) := hx.cell 1
  have x2 : W0.cell? ⟨w.heap.size + 1 + 1, 2, none⟩ = some (.bool false) := hx.cell 2
  have fx0 := hx.frozen 0
  have fx1 := hx.frozen 1
  have fx2 := hx.frozen 2
  obtain ⟨W1, hW1⟩ : ∃ W1, ((W0.setCell ⟨w.heap.size + 1 + 1, 0, none⟩ (.int .i64 0)).setCell ⟨w.heap.size + 1 + 1, 1, none⟩ (.int .u64 0)).setCell ⟨w.heap.size + 1 + 1, 2, none⟩ (.bool false) = W1 := ⟨_, rfl⟩
  have hm1 : Mod [w.heap.size + 1 + 1] W0 W1 := by
    rw [← hW1]
    exact (((Mod.refl _ W0).set (.inl (by simp)) _).set (.inl (by simp)) _).set (.inl (by simp)) _
  have hx1 : Blk W1 (w.heap.size + 1 + 1) 72 #[.int .i64 0, .int .u64 0, .bool false] := by rw [← hW1]; simpa using ((hx.set 0 (.int .i64 0)).set 1 (.int .u64 0)).set 2 (.bool false)
  have hn1 := hans.mod hm1 (by simp)
  have h4 := h3.touch hm1 (fun q hq => by simp at hq; subst hq; exact ⟨HG.out.1.2.2, by omega⟩)
  have hc1 := hact.mod hm1 (by simp; omega)
  have d0 : W1.cell? ⟨w.heap.size, 0, none⟩ = some (.int .u8 d) := hc1.cell 0
  have d1 : W1.cell? ⟨w.heap.size, 1, none⟩ = some (.int .u64 k) := hc1.cell 1
  have HM1 := Hidden.mk (hM0.trans hm1 (by simp; omega))
  have HC : Hidden (Calls Try.prog 30 #[.pointer (some ⟨xb, 0, none⟩), .int .u64 k] W1 fun e w' => e = .returned (.int .i64 (insE ks limit k)) ∧ XM w0 w' xb limit (insK ks limit k) 1000 G ∧ XK w0 G W1 w') := ⟨xm_insert k hk h4⟩
  have HZ := Hidden.mk (And.intro hx1 hn1)
  clear hact hans hx h3 hk h4 hx1 hn1 hm1 hM0 hc1
  go_enter Try.func48, Try.ntmps48
  go_wp2_with fail
  refine HC.out.mono ?_
  rintro e w2 ⟨rfl, h2, hk2⟩
  have hx2 := HZ.out.1.xk hk2 HG.out.1.2.2
  have hn2 := HZ.out.2.xk hk2 HG.out.1.2.1
  have hl2 : w.heap.size + 1 + 1 < w2.heap.size := hx2.lt
  clear c0 c1 d0 d1 x0 x1 x2 fx0 fx1 fx2 hW0 hW1 HC HZ hs0
  have x0 : w2.cell? ⟨w.heap.size + 1 + 1, 0, none⟩ = some (.int .i64 0) := hx2.cell 0
  have x1 : w2.cell? ⟨w.heap.size + 1 + 1, 1, none⟩ = some (.int .u64 0) := hx2.cell 1
  have x2 : w2.cell? ⟨w.heap.size + 1 + 1, 2, none⟩ = some (.bool false) := hx2.cell 2
  have fx0 := hx2.frozen 0
  have fx1 := hx2.frozen 1
  have fx2 := hx2.frozen 2
  have r0 : w2.cell? ⟨w.heap.size + 1, 0, none⟩ = some (.int .i64 0) := hn2.cell 0
  have r1 : w2.cell? ⟨w.heap.size + 1, 1, none⟩ = some (.int .u64 0) := hn2.cell 1
  have r2 : w2.cell? ⟨w.heap.size + 1, 2, none⟩ = some (.bool false) := hn2.cell 2
  have fr0 := hn2.frozen 0
  have fr1 := hn2.frozen 1
  have fr2 := hn2.frozen 2
  have H2 := Hidden.mk (And.intro h2 hk2)
  clear hx2 hn2 h2 hk2
  go_wp2_with fail
  (try simp only [Exit.inBlock, Exit.then])
  have HS : ∀ END : World, Mod [w.heap.size + 1 + 1, w.heap.size + 1] w2 END → XM w0 END xb limit (insK ks limit k) 1000 P ∧ XK w0 P w END := fun END hE => by
    have hS : ∀ q ∈ [w.heap.size + 1 + 1, w.heap.size + 1], q ∈ G ∧ w.heap.size ≤ q := fun q hq => by
      simp at hq
      rcases hq with rfl | rfl
      · exact ⟨HG.out.1.2.2, by omega⟩
      · exact ⟨HG.out.1.2.1, by omega⟩
    exact ⟨(H2.out.1.touch hE (fun q hq => ⟨(hS q hq).1, Nat.le_trans hw0 (hS q hq).2⟩)).less HG.out.2, ((XK.news HM1.out).trans (H2.out.2.less HG.out.2)).trans (XK.sets hE (fun q hq => ⟨Nat.le_trans hw0 (hS q hq).2, fun hP => by have := HPL.out q hP; have := (hS q hq).2; omega⟩))⟩
  refine bodyPost_ret (v := ansV (insE ks limit k, 0, false)) (by simp [results, Try.results48, go_sem, r0, r1, r2, x0, x1, x2]) rfl ⟨rfl, HS _ ?_⟩
  repeat (first | with_reducible exact Mod.refl _ _ | with_reducible refine Mod.set ?_ (.inl (by simp)) _ | with_reducible refine Mod.drewN ?_ _ | with_reducible refine Mod.drew ?_)

set_option maxHeartbeats 4000000 in
set_option maxRecDepth 100000 in
theorem do14_ins1 {w0 w : World} {xb limit c : Nat} {ks : List Int} {P : List Nat} (d k : Int) (h : XM w0 w xb limit ks c P) (hk : 0 ≤ k ∧ k < 18446744073709551616) (hd : 0 ≤ d ∧ d ≤ 255) (hm : d % 9 = 1) :
    Calls Try.prog 48 #[.pointer (some ⟨xb, 0, none⟩), .agg #[.int .u8 d, .int .u64 k]] w (Did14 w0 w xb limit P (insK ks limit k, insE ks limit k, 0, false) 1000) := by
  obtain ⟨hd0, hd1⟩ := hd
  have hw0 := h.facts.2.2.2.2.size
  have HPL := Hidden.mk h.plt
  obtain ⟨Wa, hWa⟩ : ∃ Wa, w.alloc (.cells #[.int .u8 d, .int .u64 k] 70) = Wa := ⟨_, rfl⟩
  obtain ⟨Wb, hWb⟩ : ∃ Wb, Wa.alloc (.cells #[.int .i64 0, .int .u64 0, .bool false] 72) = Wb := ⟨_, rfl⟩
  obtain ⟨W0, hW0⟩ : ∃ W0, Wb.alloc (.cells #[.int .i64 0, .int .u64 0, .bool false] 72) = W0 := ⟨_, rfl⟩
  have hma : Mod [] w Wa := by rw [← hWa]; exact (Mod.refl [] w).alloc _
  have hmb : Mod [] Wa Wb := by rw [← hWb]; exact (Mod.refl [] Wa).alloc _
  have hmc : Mod [] Wb W0 := by rw [← hW0]; exact (Mod.refl [] Wb).alloc _
  have hsa : Wa.heap.size = w.heap.size + 1 := by rw [← hWa]; simp
  have hsb : Wb.heap.size = w.heap.size + 1 + 1 := by rw [← hWb]; simp [hsa]
  have hs0 : W0.heap.size = w.heap.size + 3 := by rw [← hW0]; simp [hsb]
  have hact : Blk W0 w.heap.size 70 #[.int .u8 d, .int .u64 k] := by rw [← hW0, ← hWb, ← hWa]; exact ((Blk.new w _ _).alloc _).alloc _
  have hans : Blk W0 (w.heap.size + 1) 72 #[.int .i64 0, .int .u64 0, .bool false] := by rw [← hW0, ← hWb]; exact (Blk.new' (by rw [hsa]) _ _).alloc _
  have hx : Blk W0 (w.heap.size + 1 + 1) 72 #[.int .i64 0, .int .u64 0, .bool false] := by rw [← hW0]; exact Blk.new' (by rw [hsb]) _ _
  have h3 := ((h.guard (q := w.heap.size) hma (Nat.le_refl _) (by omega)).guard (q := w.heap.size + 1) hmb (by omega) (by omega)).guard (q := w.heap.size + 1 + 1) hmc (by omega) (by omega)
  have hM0 := (hma.trans hmb (by simp)).trans hmc (by simp)
  clear hma hmb hmc h
  rw [← hWb, ← hWa] at hW0
  clear hWa hWb hsa hsb
  obtain ⟨G, hG⟩ : ∃ G, (w.heap.size + 1 + 1) :: (w.heap.size + 1) :: w.heap.size :: P = G := ⟨_, rfl⟩
  rw [hG] at h3
  have HG : Hidden ((w.heap.size ∈ G ∧ w.heap.size + 1 ∈ G ∧ w.heap.size + 1 + 1 ∈ G) ∧ ∀ q ∈ P, q ∈ G) := ⟨by rw [← hG]; simp; exact fun q hq => .inr (.inr (.inr hq))⟩
  clear hG
  have c0 : W0.cell? ⟨w.heap.size, 0, none⟩ = some (.int .u8 d) := hact.cell 0
  have c1 : W0.cell? ⟨w.heap.size, 1, none⟩ = some (.int .u64 k) := hact.cell 1
  have x0 : W0.cell? ⟨w.heap.size + 1 + 1, 0, none⟩ = some (.int .i64 0) := hx.cell 0
  have x1 : W0.cell? ⟨w.heap.size + 1 + 1, 1, none⟩ = some (.int .u64 0) := hx.cell 1
  have x2 : W0.cell? ⟨w.heap.size + 1 + 1, 2, none⟩ = some (.bool false) := hx.cell 2
  have fx0 := hx.frozen 0
  have fx1 := hx.frozen 1
  have fx2 := hx.frozen 2
  obtain ⟨W1, hW1⟩ : ∃ W1, ((W0.setCell ⟨w.heap.size + 1 + 1, 0, none⟩ (.int .i64 0)).setCell ⟨w.heap.size + 1 + 1, 1, none⟩ (.int .u64 0)).setCell ⟨w.heap.size + 1 + 1, 2, none⟩ (.bool false) = W1 := ⟨_, rfl⟩
  have hm1 : Mod [w.heap.size + 1 + 1] W0 W1 := by
    rw [← hW1]
    exact (((Mod.refl _ W0).set (.inl (by simp)) _).set (.inl (by simp)) _).set (.inl (by simp)) _
  have hx1 : Blk W1 (w.heap.size + 1 + 1) 72 #[.int .i64 0, .int .u64 0, .bool false] := by rw [← hW1]; simpa using ((hx.set 0 (.int .i64 0)).set 1 (.int .u64 0)).set 2 (.bool false)
  have hn1 := hans.mod hm1 (by simp)
  have h4 := h3.touch hm1 (fun q hq => by simp at hq; subst hq; exact ⟨HG.out.1.2.2, by omega⟩)
  have hc1 := hact.mod hm1 (by simp; omega)
  have d0 : W1.cell? ⟨w.heap.size, 0, none⟩ = some (.int .u8 d) := hc1.cell 0
  have d1 : W1.cell? ⟨w.heap.size, 1, none⟩ = some (.int .u64 k) := hc1.cell 1
  have HM1 := Hidden.mk (hM0.trans hm1 (by simp; omega))
  have HC : Hidden (Calls Try.prog 30 #[.pointer (some ⟨xb, 0, none⟩), .int .u64 k] W1 fun e w' => e = .returned (.int .i64 (insE ks limit k)) ∧ XM w0 w' xb limit (insK ks limit k) 1000 G ∧ XK w0 G W1 w') := ⟨xm_insert k hk h4⟩
  have HZ := Hidden.mk (And.intro hx1 hn1)
  clear hact hans hx h3 hk h4 hx1 hn1 hm1 hM0 hc1
  go_enter Try.func48, Try.ntmps48
  go_wp2_with fail
  refine HC.out.mono ?_
  rintro e w2 ⟨rfl, h2, hk2⟩
  have hx2 := HZ.out.1.xk hk2 HG.out.1.2.2
  have hn2 := HZ.out.2.xk hk2 HG.out.1.2.1
  have hl2 : w.heap.size + 1 + 1 < w2.heap.size := hx2.lt
  clear c0 c1 d0 d1 x0 x1 x2 fx0 fx1 fx2 hW0 hW1 HC HZ hs0
  have x0 : w2.cell? ⟨w.heap.size + 1 + 1, 0, none⟩ = some (.int .i64 0) := hx2.cell 0
  have x1 : w2.cell? ⟨w.heap.size + 1 + 1, 1, none⟩ = some (.int .u64 0) := hx2.cell 1
  have x2 : w2.cell? ⟨w.heap.size + 1 + 1, 2, none⟩ = some (.bool false) := hx2.cell 2
  have fx0 := hx2.frozen 0
  have fx1 := hx2.frozen 1
  have fx2 := hx2.frozen 2
  have r0 : w2.cell? ⟨w.heap.size + 1, 0, none⟩ = some (.int .i64 0) := hn2.cell 0
  have r1 : w2.cell? ⟨w.heap.size + 1, 1, none⟩ = some (.int .u64 0) := hn2.cell 1
  have r2 : w2.cell? ⟨w.heap.size + 1, 2, none⟩ = some (.bool false) := hn2.cell 2
  have fr0 := hn2.frozen 0
  have fr1 := hn2.frozen 1
  have fr2 := hn2.frozen 2
  have H2 := Hidden.mk (And.intro h2 hk2)
  clear hx2 hn2 h2 hk2
  go_wp2_with fail
  (try simp only [Exit.inBlock, Exit.then])
  have HS : ∀ END : World, Mod [w.heap.size + 1 + 1, w.heap.size + 1] w2 END → XM w0 END xb limit (insK ks limit k) 1000 P ∧ XK w0 P w END := fun END hE => by
    have hS : ∀ q ∈ [w.heap.size + 1 + 1, w.heap.size + 1], q ∈ G ∧ w.heap.size ≤ q := fun q hq => by
      simp at hq
      rcases hq with rfl | rfl
      · exact ⟨HG.out.1.2.2, by omega⟩
      · exact ⟨HG.out.1.2.1, by omega⟩
    exact ⟨(H2.out.1.touch hE (fun q hq => ⟨(hS q hq).1, Nat.le_trans hw0 (hS q hq).2⟩)).less HG.out.2, ((XK.news HM1.out).trans (H2.out.2.less HG.out.2)).trans (XK.sets hE (fun q hq => ⟨Nat.le_trans hw0 (hS q hq).2, fun hP => by have := HPL.out q hP; have := (hS q hq).2; omega⟩))⟩
  refine bodyPost_ret (v := ansV (insE ks limit k, 0, false)) (by simp [results, Try.results48, go_sem, r0, r1, r2, x0, x1, x2]) rfl ⟨rfl, HS _ ?_⟩
  repeat (first | with_reducible exact Mod.refl _ _ | with_reducible refine Mod.set ?_ (.inl (by simp)) _ | with_reducible refine Mod.drewN ?_ _ | with_reducible refine Mod.drew ?_)

set_option maxHeartbeats 4000000 in
set_option maxRecDepth 100000 in
theorem do14_del {w0 w : World} {xb limit c : Nat} {ks : List Int} {P : List Nat} (d k : Int) (h : XM w0 w xb limit ks c P) (hk : 0 ≤ k ∧ k < 18446744073709551616) (hd : 0 ≤ d ∧ d ≤ 255) (hm : d % 9 = 2) (er : Int) (ks2 : List Int) (he : (if k ∈ ks then 0 else 3 : Int) = er) (hk2 : (if k ∈ ks then delL ks k else ks) = ks2) :
    Calls Try.prog 48 #[.pointer (some ⟨xb, 0, none⟩), .agg #[.int .u8 d, .int .u64 k]] w (Did14 w0 w xb limit P (ks2, er, 0, false) 1000) := by
  obtain ⟨hd0, hd1⟩ := hd
  have hw0 := h.facts.2.2.2.2.size
  have HPL := Hidden.mk h.plt
  obtain ⟨Wa, hWa⟩ : ∃ Wa, w.alloc (.cells #[.int .u8 d, .int .u64 k] 70) = Wa := ⟨_, rfl⟩
  obtain ⟨Wb, hWb⟩ : ∃ Wb, Wa.alloc (.cells #[.int .i64 0, .int .u64 0, .bool false] 72) = Wb := ⟨_, rfl⟩
  obtain ⟨W0, hW0⟩ : ∃ W0, Wb.alloc (.cells #[.int .i64 0, .int .u64 0, .bool false] 72) = W0 := ⟨_, rfl⟩
  have hma : Mod [] w Wa := by rw [← hWa]; exact (Mod.refl [] w).alloc _
  have hmb : Mod [] Wa Wb := by rw [← hWb]; exact (Mod.refl [] Wa).alloc _
  have hmc : Mod [] Wb W0 := by rw [← hW0]; exact (Mod.refl [] Wb).alloc _
  have hsa : Wa.heap.size = w.heap.size + 1 := by rw [← hWa]; simp
  have hsb : Wb.heap.size = w.heap.size + 1 + 1 := by rw [← hWb]; simp [hsa]
  have hs0 : W0.heap.size = w.heap.size + 3 := by rw [← hW0]; simp [hsb]
  have hact : Blk W0 w.heap.size 70 #[.int .u8 d, .int .u64 k] := by rw [← hW0, ← hWb, ← hWa]; exact ((Blk.new w _ _).alloc _).alloc _
  have hans : Blk W0 (w.heap.size + 1) 72 #[.int .i64 0, .int .u64 0, .bool false] := by rw [← hW0, ← hWb]; exact (Blk.new' (by rw [hsa]) _ _).alloc _
  have hx : Blk W0 (w.heap.size + 1 + 1) 72 #[.int .i64 0, .int .u64 0, .bool false] := by rw [← hW0]; exact Blk.new' (by rw [hsb]) _ _
  have h3 := ((h.guard (q := w.heap.size) hma (Nat.le_refl _) (by omega)).guard (q := w.heap.size + 1) hmb (by omega) (by omega)).guard (q := w.heap.size + 1 + 1) hmc (by omega) (by omega)
  have hM0 := (hma.trans hmb (by simp)).trans hmc (by simp)
  clear hma hmb hmc h
  rw [← hWb, ← hWa] at hW0
  clear hWa hWb hsa hsb
  obtain ⟨G, hG⟩ : ∃ G, (w.heap.size + 1 + 1) :: (w.heap.size + 1) :: w.heap.size :: P = G := ⟨_, rfl⟩
  rw [hG] at h3
  have HG : Hidden ((w.heap.size ∈ G ∧ w.heap.size + 1 ∈ G ∧ w.heap.size + 1 + 1 ∈ G) ∧ ∀ q ∈ P, q ∈ G) := ⟨by rw [← hG]; simp; exact fun q hq => .inr (.inr (.inr hq))⟩
  clear hG
  have c0 : W0.cell? ⟨w.heap.size, 0, none⟩ = some (.int .u8 d) := hact.cell 0
  have c1 : W0.cell? ⟨w.heap.size, 1, none⟩ = some (.int .u64 k) := hact.cell 1
  have x0 : W0.cell? ⟨w.heap.size + 1 + 1, 0, none⟩ = some (.int .i64 0) := hx.cell 0
  have x1 : W0.cell? ⟨w.heap.size + 1 + 1, 1, none⟩ = some (.int .u64 0) := hx.cell 1
  have x2 : W0.cell? ⟨w.heap.size + 1 + 1, 2, none⟩ = some (.bool false) := hx.cell 2
  have fx0 := hx.frozen 0
  have fx1 := hx.frozen 1
  have fx2 := hx.frozen 2
  obtain ⟨W1, hW1⟩ : ∃ W1, ((W0.setCell ⟨w.heap.size + 1 + 1, 0, none⟩ (.int .i64 0)).setCell ⟨w.heap.size + 1 + 1, 1, none⟩ (.int .u64 0)).setCell ⟨w.heap.size + 1 + 1, 2, none⟩ (.bool false) = W1 := ⟨_, rfl⟩
  have hm1 : Mod [w.heap.size + 1 + 1] W0 W1 := by
    rw [← hW1]
    exact (((Mod.refl _ W0).set (.inl (by simp)) _).set (.inl (by simp)) _).set (.inl (by simp)) _
  have hx1 : Blk W1 (w.heap.size + 1 + 1) 72 #[.int .i64 0, .int .u64 0, .bool false] := by rw [← hW1]; simpa using ((hx.set 0 (.int .i64 0)).set 1 (.int .u64 0)).set 2 (.bool false)
  have hn1 := hans.mod hm1 (by simp)
  have h4 := h3.touch hm1 (fun q hq => by simp at hq; subst hq; exact ⟨HG.out.1.2.2, by omega⟩)
  have hc1 := hact.mod hm1 (by simp; omega)
  have d0 : W1.cell? ⟨w.heap.size, 0, none⟩ = some (.int .u8 d) := hc1.cell 0
  have d1 : W1.cell? ⟨w.heap.size, 1, none⟩ = some (.int .u64 k) := hc1.cell 1
  have HM1 := Hidden.mk (hM0.trans hm1 (by simp; omega))
  have HC : Hidden (Calls Try.prog 32 #[.pointer (some ⟨xb, 0, none⟩), .int .u64 k] W1 fun e w' => e = .returned (.int .i64 er) ∧ XM w0 w' xb limit (ks2) 1000 G ∧ XK w0 G W1 w') := ⟨by have := xm_delete k hk h4; rw [he, hk2] at this; exact this⟩
  have HZ := Hidden.mk (And.intro hx1 hn1)
  clear hact hans hx h3 hk h4 hx1 hn1 hm1 hM0 hc1
  go_enter Try.func48, Try.ntmps48
  go_wp2_with fail
  refine HC.out.mono ?_
  rintro e w2 ⟨rfl, h2, hk2⟩
  have hx2 := HZ.out.1.xk hk2 HG.out.1.2.2
  have hn2 := HZ.out.2.xk hk2 HG.out.1.2.1
  have hl2 : w.heap.size + 1 + 1 < w2.heap.size := hx2.lt
  clear c0 c1 d0 d1 x0 x1 x2 fx0 fx1 fx2 hW0 hW1 HC HZ hs0
  have x0 : w2.cell? ⟨w.heap.size + 1 + 1, 0, none⟩ = some (.int .i64 0) := hx2.cell 0
  have x1 : w2.cell? ⟨w.heap.size + 1 + 1, 1, none⟩ = some (.int .u64 0) := hx2.cell 1
  have x2 : w2.cell? ⟨w.heap.size + 1 + 1, 2, none⟩ = some (.bool false) := hx2.cell 2
  have fx0 := hx2.frozen 0
  have fx1 := hx2.frozen 1
  have fx2 := hx2.frozen 2
  have r0 : w2.cell? ⟨w.heap.size + 1, 0, none⟩ = some (.int .i64 0) := hn2.cell 0
  have r1 : w2.cell? ⟨w.heap.size + 1, 1, none⟩ = some (.int .u64 0) := hn2.cell 1
  have r2 : w2.cell? ⟨w.heap.size + 1, 2, none⟩ = some (.bool false) := hn2.cell 2
  have fr0 := hn2.frozen 0
  have fr1 := hn2.frozen 1
  have fr2 := hn2.frozen 2
  have H2 := Hidden.mk (And.intro h2 hk2)
  clear hx2 hn2 h2 hk2
  go_wp2_with fail
  (try simp only [Exit.inBlock, Exit.then])
  have HS : ∀ END : World, Mod [w.heap.size + 1 + 1, w.heap.size + 1] w2 END → XM w0 END xb limit (ks2) 1000 P ∧ XK w0 P w END := fun END hE => by
    have hS : ∀ q ∈ [w.heap.size + 1 + 1, w.heap.size + 1], q ∈ G ∧ w.heap.size ≤ q := fun q hq => by
      simp at hq
      rcases hq with rfl | rfl
      · exact ⟨HG.out.1.2.2, by omega⟩
      · exact ⟨HG.out.1.2.1, by omega⟩
    exact ⟨(H2.out.1.touch hE (fun q hq => ⟨(hS q hq).1, Nat.le_trans hw0 (hS q hq).2⟩)).less HG.out.2, ((XK.news HM1.out).trans (H2.out.2.less HG.out.2)).trans (XK.sets hE (fun q hq => ⟨Nat.le_trans hw0 (hS q hq).2, fun hP => by have := HPL.out q hP; have := (hS q hq).2; omega⟩))⟩
  refine bodyPost_ret (v := ansV (er, 0, false)) (by simp [results, Try.results48, go_sem, r0, r1, r2, x0, x1, x2]) rfl ⟨rfl, HS _ ?_⟩
  repeat (first | with_reducible exact Mod.refl _ _ | with_reducible refine Mod.set ?_ (.inl (by simp)) _ | with_reducible refine Mod.drewN ?_ _ | with_reducible refine Mod.drew ?_)

set_option maxHeartbeats 4000000 in
set_option maxRecDepth 100000 in
theorem do14_has {w0 w : World} {xb limit c : Nat} {ks : List Int} {P : List Nat} (d k : Int) (h : XM w0 w xb limit ks c P) (hk : 0 ≤ k ∧ k < 18446744073709551616) (hd : 0 ≤ d ∧ d ≤ 255) (hm : d % 9 = 3) (b : Bool) (hb : decide (k ∈ ks) = b) :
    Calls Try.prog 48 #[.pointer (some ⟨xb, 0, none⟩), .agg #[.int .u8 d, .int .u64 k]] w (Did14 w0 w xb limit P (ks, 0, 0, b) 1) := by
  obtain ⟨hd0, hd1⟩ := hd
  have hw0 := h.facts.2.2.2.2.size
  have HPL := Hidden.mk h.plt
  obtain ⟨Wa, hWa⟩ : ∃ Wa, w.alloc (.cells #[.int .u8 d, .int .u64 k] 70) = Wa := ⟨_, rfl⟩
  obtain ⟨Wb, hWb⟩ : ∃ Wb, Wa.alloc (.cells #[.int .i64 0, .int .u64 0, .bool false] 72) = Wb := ⟨_, rfl⟩
  obtain ⟨W0, hW0⟩ : ∃ W0, Wb.alloc (.cells #[.int .i64 0, .int .u64 0, .bool false] 72) = W0 := ⟨_, rfl⟩
  have hma : Mod [] w Wa := by rw [← hWa]; exact (Mod.refl [] w).alloc _
  have hmb : Mod [] Wa Wb := by rw [← hWb]; exact (Mod.refl [] Wa).alloc _
  have hmc : Mod [] Wb W0 := by rw [← hW0]; exact (Mod.refl [] Wb).alloc _
  have hsa : Wa.heap.size = w.heap.size + 1 := by rw [← hWa]; simp
  have hsb : Wb.heap.size = w.heap.size + 1 + 1 := by rw [← hWb]; simp [hsa]
  have hs0 : W0.heap.size = w.heap.size + 3 := by rw [← hW0]; simp [hsb]
  have hact : Blk W0 w.heap.size 70 #[.int .u8 d, .int .u64 k] := by rw [← hW0, ← hWb, ← hWa]; exact ((Blk.new w _ _).alloc _).alloc _
  have hans : Blk W0 (w.heap.size + 1) 72 #[.int .i64 0, .int .u64 0, .bool false] := by rw [← hW0, ← hWb]; exact (Blk.new' (by rw [hsa]) _ _).alloc _
  have hx : Blk W0 (w.heap.size + 1 + 1) 72 #[.int .i64 0, .int .u64 0, .bool false] := by rw [← hW0]; exact Blk.new' (by rw [hsb]) _ _
  have h3 := ((h.guard (q := w.heap.size) hma (Nat.le_refl _) (by omega)).guard (q := w.heap.size + 1) hmb (by omega) (by omega)).guard (q := w.heap.size + 1 + 1) hmc (by omega) (by omega)
  have hM0 := (hma.trans hmb (by simp)).trans hmc (by simp)
  clear hma hmb hmc h
  rw [← hWb, ← hWa] at hW0
  clear hWa hWb hsa hsb
  obtain ⟨G, hG⟩ : ∃ G, (w.heap.size + 1 + 1) :: (w.heap.size + 1) :: w.heap.size :: P = G := ⟨_, rfl⟩
  rw [hG] at h3
  have HG : Hidden ((w.heap.size ∈ G ∧ w.heap.size + 1 ∈ G ∧ w.heap.size + 1 + 1 ∈ G) ∧ ∀ q ∈ P, q ∈ G) := ⟨by rw [← hG]; simp; exact fun q hq => .inr (.inr (.inr hq))⟩
  clear hG
  have c0 : W0.cell? ⟨w.heap.size, 0, none⟩ = some (.int .u8 d) := hact.cell 0
  have c1 : W0.cell? ⟨w.heap.size, 1, none⟩ = some (.int .u64 k) := hact.cell 1
  have x0 : W0.cell? ⟨w.heap.size + 1 + 1, 0, none⟩ = some (.int .i64 0) := hx.cell 0
  have x1 : W0.cell? ⟨w.heap.size + 1 + 1, 1, none⟩ = some (.int .u64 0) := hx.cell 1
  have x2 : W0.cell? ⟨w.heap.size + 1 + 1, 2, none⟩ = some (.bool false) := hx.cell 2
  have fx0 := hx.frozen 0
  have fx1 := hx.frozen 1
  have fx2 := hx.frozen 2
  obtain ⟨W1, hW1⟩ : ∃ W1, ((W0.setCell ⟨w.heap.size + 1 + 1, 0, none⟩ (.int .i64 0)).setCell ⟨w.heap.size + 1 + 1, 1, none⟩ (.int .u64 0)).setCell ⟨w.heap.size + 1 + 1, 2, none⟩ (.bool false) = W1 := ⟨_, rfl⟩
  have hm1 : Mod [w.heap.size + 1 + 1] W0 W1 := by
    rw [← hW1]
    exact (((Mod.refl _ W0).set (.inl (by simp)) _).set (.inl (by simp)) _).set (.inl (by simp)) _
  have hx1 : Blk W1 (w.heap.size + 1 + 1) 72 #[.int .i64 0, .int .u64 0, .bool false] := by rw [← hW1]; simpa using ((hx.set 0 (.int .i64 0)).set 1 (.int .u64 0)).set 2 (.bool false)
  have hn1 := hans.mod hm1 (by simp)
  have h4 := h3.touch hm1 (fun q hq => by simp at hq; subst hq; exact ⟨HG.out.1.2.2, by omega⟩)
  have hc1 := hact.mod hm1 (by simp; omega)
  have d0 : W1.cell? ⟨w.heap.size, 0, none⟩ = some (.int .u8 d) := hc1.cell 0
  have d1 : W1.cell? ⟨w.heap.size, 1, none⟩ = some (.int .u64 k) := hc1.cell 1
  have HM1 := Hidden.mk (hM0.trans hm1 (by simp; omega))
  have HC : Hidden (Calls Try.prog 15 #[.pointer (some ⟨xb, 0, none⟩), .int .u64 k] W1 fun e w' => e = .returned (.bool b) ∧ XM w0 w' xb limit (ks) 1 G ∧ XK w0 G W1 w') := ⟨by have := xm_has k hk h4; rw [hb] at this; exact this⟩
  have HZ := Hidden.mk (And.intro hx1 hn1)
  clear hact hans hx h3 hk h4 hx1 hn1 hm1 hM0 hc1
  go_enter Try.func48, Try.ntmps48
  go_wp2_with fail
  refine HC.out.mono ?_
  rintro e w2 ⟨rfl, h2, hk2⟩
  have hx2 := HZ.out.1.xk hk2 HG.out.1.2.2
  have hn2 := HZ.out.2.xk hk2 HG.out.1.2.1
  have hl2 : w.heap.size + 1 + 1 < w2.heap.size := hx2.lt
  clear c0 c1 d0 d1 x0 x1 x2 fx0 fx1 fx2 hW0 hW1 HC HZ hs0
  have x0 : w2.cell? ⟨w.heap.size + 1 + 1, 0, none⟩ = some (.int .i64 0) := hx2.cell 0
  have x1 : w2.cell? ⟨w.heap.size + 1 + 1, 1, none⟩ = some (.int .u64 0) := hx2.cell 1
  have x2 : w2.cell? ⟨w.heap.size + 1 + 1, 2, none⟩ = some (.bool false) := hx2.cell 2
  have fx0 := hx2.frozen 0
  have fx1 := hx2.frozen 1
  have fx2 := hx2.frozen 2
  have r0 : w2.cell? ⟨w.heap.size + 1, 0, none⟩ = some (.int .i64 0) := hn2.cell 0
  have r1 : w2.cell? ⟨w.heap.size + 1, 1, none⟩ = some (.int .u64 0) := hn2.cell 1
  have r2 : w2.cell? ⟨w.heap.size + 1, 2, none⟩ = some (.bool false) := hn2.cell 2
  have fr0 := hn2.frozen 0
  have fr1 := hn2.frozen 1
  have fr2 := hn2.frozen 2
  have H2 := Hidden.mk (And.intro h2 hk2)
  clear hx2 hn2 h2 hk2
  go_wp2_with fail
  (try simp only [Exit.inBlock, Exit.then])
  have HS : ∀ END : World, Mod [w.heap.size + 1 + 1, w.heap.size + 1] w2 END → XM w0 END xb limit (ks) 1 P ∧ XK w0 P w END := fun END hE => by
    have hS : ∀ q ∈ [w.heap.size + 1 + 1, w.heap.size + 1], q ∈ G ∧ w.heap.size ≤ q := fun q hq => by
      simp at hq
      rcases hq with rfl | rfl
      · exact ⟨HG.out.1.2.2, by omega⟩
      · exact ⟨HG.out.1.2.1, by omega⟩
    exact ⟨(H2.out.1.touch hE (fun q hq => ⟨(hS q hq).1, Nat.le_trans hw0 (hS q hq).2⟩)).less HG.out.2, ((XK.news HM1.out).trans (H2.out.2.less HG.out.2)).trans (XK.sets hE (fun q hq => ⟨Nat.le_trans hw0 (hS q hq).2, fun hP => by have := HPL.out q hP; have := (hS q hq).2; omega⟩))⟩
  refine bodyPost_ret (v := ansV (0, 0, b)) (by simp [results, Try.results48, go_sem, r0, r1, r2, x0, x1, x2]) rfl ⟨rfl, HS _ ?_⟩
  repeat (first | with_reducible exact Mod.refl _ _ | with_reducible refine Mod.set ?_ (.inl (by simp)) _ | with_reducible refine Mod.drewN ?_ _ | with_reducible refine Mod.drew ?_)

set_option maxHeartbeats 4000000 in
set_option maxRecDepth 100000 in
theorem do14_next {w0 w : World} {xb limit c : Nat} {ks : List Int} {P : List Nat} (d k : Int) (h : XM w0 w xb limit ks c P) (hk : 0 ≤ k ∧ k < 18446744073709551616) (hd : 0 ≤ d ∧ d ≤ 255) (hm : d % 9 = 4) (ra : Int) (rc : Bool) (hr : selL ks (rk ks k) = (ra, rc)) :
    Calls Try.prog 48 #[.pointer (some ⟨xb, 0, none⟩), .agg #[.int .u8 d, .int .u64 k]] w (Did14 w0 w xb limit P (ks, 0, ra, rc) 9) := by
  obtain ⟨hd0, hd1⟩ := hd
  have hw0 := h.facts.2.2.2.2.size
  have HPL := Hidden.mk h.plt
  obtain ⟨Wa, hWa⟩ : ∃ Wa, w.alloc (.cells #[.int .u8 d, .int .u64 k] 70) = Wa := ⟨_, rfl⟩
  obtain ⟨Wb, hWb⟩ : ∃ Wb, Wa.alloc (.cells #[.int .i64 0, .int .u64 0, .bool false] 72) = Wb := ⟨_, rfl⟩
  obtain ⟨W0, hW0⟩ : ∃ W0, Wb.alloc (.cells #[.int .i64 0, .int .u64 0, .bool false] 72) = W0 := ⟨_, rfl⟩
  have hma : Mod [] w Wa := by rw [← hWa]; exact (Mod.refl [] w).alloc _
  have hmb : Mod [] Wa Wb := by rw [← hWb]; exact (Mod.refl [] Wa).alloc _
  have hmc : Mod [] Wb W0 := by rw [← hW0]; exact (Mod.refl [] Wb).alloc _
  have hsa : Wa.heap.size = w.heap.size + 1 := by rw [← hWa]; simp
  have hsb : Wb.heap.size = w.heap.size + 1 + 1 := by rw [← hWb]; simp [hsa]
  have hs0 : W0.heap.size = w.heap.size + 3 := by rw [← hW0]; simp [hsb]
  have hact : Blk W0 w.heap.size 70 #[.int .u8 d, .int .u64 k] := by rw [← hW0, ← hWb, ← hWa]; exact ((Blk.new w _ _).alloc _).alloc _
  have hans : Blk W0 (w.heap.size + 1) 72 #[.int .i64 0, .int .u64 0, .bool false] := by rw [← hW0, ← hWb]; exact (Blk.new' (by rw [hsa]) _ _).alloc _
  have hx : Blk W0 (w.heap.size + 1 + 1) 72 #[.int .i64 0, .int .u64 0, .bool false] := by rw [← hW0]; exact Blk.new' (by rw [hsb]) _ _
  have h3 := ((h.guard (q := w.heap.size) hma (Nat.le_refl _) (by omega)).guard (q := w.heap.size + 1) hmb (by omega) (by omega)).guard (q := w.heap.size + 1 + 1) hmc (by omega) (by omega)
  have hM0 := (hma.trans hmb (by simp)).trans hmc (by simp)
  clear hma hmb hmc h
  rw [← hWb, ← hWa] at hW0
  clear hWa hWb hsa hsb
  obtain ⟨G, hG⟩ : ∃ G, (w.heap.size + 1 + 1) :: (w.heap.size + 1) :: w.heap.size :: P = G := ⟨_, rfl⟩
  rw [hG] at h3
  have HG : Hidden ((w.heap.size ∈ G ∧ w.heap.size + 1 ∈ G ∧ w.heap.size + 1 + 1 ∈ G) ∧ ∀ q ∈ P, q ∈ G) := ⟨by rw [← hG]; simp; exact fun q hq => .inr (.inr (.inr hq))⟩
  clear hG
  have c0 : W0.cell? ⟨w.heap.size, 0, none⟩ = some (.int .u8 d) := hact.cell 0
  have c1 : W0.cell? ⟨w.heap.size, 1, none⟩ = some (.int .u64 k) := hact.cell 1
  have x0 : W0.cell? ⟨w.heap.size + 1 + 1, 0, none⟩ = some (.int .i64 0) := hx.cell 0
  have x1 : W0.cell? ⟨w.heap.size + 1 + 1, 1, none⟩ = some (.int .u64 0) := hx.cell 1
  have x2 : W0.cell? ⟨w.heap.size + 1 + 1, 2, none⟩ = some (.bool false) := hx.cell 2
  have fx0 := hx.frozen 0
  have fx1 := hx.frozen 1
  have fx2 := hx.frozen 2
  obtain ⟨W1, hW1⟩ : ∃ W1, ((W0.setCell ⟨w.heap.size + 1 + 1, 0, none⟩ (.int .i64 0)).setCell ⟨w.heap.size + 1 + 1, 1, none⟩ (.int .u64 0)).setCell ⟨w.heap.size + 1 + 1, 2, none⟩ (.bool false) = W1 := ⟨_, rfl⟩
  have hm1 : Mod [w.heap.size + 1 + 1] W0 W1 := by
    rw [← hW1]
    exact (((Mod.refl _ W0).set (.inl (by simp)) _).set (.inl (by simp)) _).set (.inl (by simp)) _
  have hx1 : Blk W1 (w.heap.size + 1 + 1) 72 #[.int .i64 0, .int .u64 0, .bool false] := by rw [← hW1]; simpa using ((hx.set 0 (.int .i64 0)).set 1 (.int .u64 0)).set 2 (.bool false)
  have hn1 := hans.mod hm1 (by simp)
  have h4 := h3.touch hm1 (fun q hq => by simp at hq; subst hq; exact ⟨HG.out.1.2.2, by omega⟩)
  have hc1 := hact.mod hm1 (by simp; omega)
  have d0 : W1.cell? ⟨w.heap.size, 0, none⟩ = some (.int .u8 d) := hc1.cell 0
  have d1 : W1.cell? ⟨w.heap.size, 1, none⟩ = some (.int .u64 k) := hc1.cell 1
  have HM1 := Hidden.mk (hM0.trans hm1 (by simp; omega))
  have HC : Hidden (Calls Try.prog 17 #[.pointer (some ⟨xb, 0, none⟩), .int .u64 k] W1 fun e w' => e = .returned (.tuple #[.int .u64 ra, .bool rc]) ∧ XM w0 w' xb limit (ks) 9 G ∧ XK w0 G W1 w') := ⟨by have := xm_next k hk h4; rw [hr] at this; exact this⟩
  have HZ := Hidden.mk (And.intro hx1 hn1)
  clear hact hans hx h3 hk h4 hx1 hn1 hm1 hM0 hc1
  go_enter Try.func48, Try.ntmps48
  go_wp2_with fail
  refine HC.out.mono ?_
  rintro e w2 ⟨rfl, h2, hk2⟩
  have hx2 := HZ.out.1.xk hk2 HG.out.1.2.2
  have hn2 := HZ.out.2.xk hk2 HG.out.1.2.1
  have hl2 : w.heap.size + 1 + 1 < w2.heap.size := hx2.lt
  clear c0 c1 d0 d1 x0 x1 x2 fx0 fx1 fx2 hW0 hW1 HC HZ hs0
  have x0 : w2.cell? ⟨w.heap.size + 1 + 1, 0, none⟩ = some (.int .i64 0) := hx2.cell 0
  have x1 : w2.cell? ⟨w.heap.size + 1 + 1, 1, none⟩ = some (.int .u64 0) := hx2.cell 1
  have x2 : w2.cell? ⟨w.heap.size + 1 + 1, 2, none⟩ = some (.bool false) := hx2.cell 2
  have fx0 := hx2.frozen 0
  have fx1 := hx2.frozen 1
  have fx2 := hx2.frozen 2
  have r0 : w2.cell? ⟨w.heap.size + 1, 0, none⟩ = some (.int .i64 0) := hn2.cell 0
  have r1 : w2.cell? ⟨w.heap.size + 1, 1, none⟩ = some (.int .u64 0) := hn2.cell 1
  have r2 : w2.cell? ⟨w.heap.size + 1, 2, none⟩ = some (.bool false) := hn2.cell 2
  have fr0 := hn2.frozen 0
  have fr1 := hn2.frozen 1
  have fr2 := hn2.frozen 2
  have H2 := Hidden.mk (And.intro h2 hk2)
  clear hx2 hn2 h2 hk2
  go_wp2_with fail
  (try simp only [Exit.inBlock, Exit.then])
  have HS : ∀ END : World, Mod [w.heap.size + 1 + 1, w.heap.size + 1] w2 END → XM w0 END xb limit (ks) 9 P ∧ XK w0 P w END := fun END hE => by
    have hS : ∀ q ∈ [w.heap.size + 1 + 1, w.heap.size + 1], q ∈ G ∧ w.heap.size ≤ q := fun q hq => by
      simp at hq
      rcases hq with rfl | rfl
      · exact ⟨HG.out.1.2.2, by omega⟩
      · exact ⟨HG.out.1.2.1, by omega⟩
    exact ⟨(H2.out.1.touch hE (fun q hq => ⟨(hS q hq).1, Nat.le_trans hw0 (hS q hq).2⟩)).less HG.out.2, ((XK.news HM1.out).trans (H2.out.2.less HG.out.2)).trans (XK.sets hE (fun q hq => ⟨Nat.le_trans hw0 (hS q hq).2, fun hP => by have := HPL.out q hP; have := (hS q hq).2; omega⟩))⟩
  refine bodyPost_ret (v := ansV (0, ra, rc)) (by simp [results, Try.results48, go_sem, r0, r1, r2, x0, x1, x2]) rfl ⟨rfl, HS _ ?_⟩
  repeat (first | with_reducible exact Mod.refl _ _ | with_reducible refine Mod.set ?_ (.inl (by simp)) _ | with_reducible refine Mod.drewN ?_ _ | with_reducible refine Mod.drew ?_)

set_option maxHeartbeats 4000000 in
set_option maxRecDepth 100000 in
theorem do14_prev {w0 w : World} {xb limit c : Nat} {ks : List Int} {P : List Nat} (d k : Int) (h : XM w0 w xb limit ks c P) (hk : 0 ≤ k ∧ k < 18446744073709551616) (hd : 0 ≤ d ∧ d ≤ 255) (hm : d % 9 = 5) (ra : Int) (rc : Bool) (hr : prevL64 ks k = (ra, rc)) :
    Calls Try.prog 48 #[.pointer (some ⟨xb, 0, none⟩), .agg #[.int .u8 d, .int .u64 k]] w (Did14 w0 w xb limit P (ks, 0, ra, rc) 9) := by
  obtain ⟨hd0, hd1⟩ := hd
  have hw0 := h.facts.2.2.2.2.size
  have HPL := Hidden.mk h.plt
  obtain ⟨Wa, hWa⟩ : ∃ Wa, w.alloc (.cells #[.int .u8 d, .int .u64 k] 70) = Wa := ⟨_, rfl⟩
  obtain ⟨Wb, hWb⟩ : ∃ Wb, Wa.alloc (.cells #[.int .i64 0, .int .u64 0, .bool false] 72) = Wb := ⟨_, rfl⟩
  obtain ⟨W0, hW0⟩ : ∃ W0, Wb.alloc (.cells #[.int .i64 0, .int .u64 0, .bool false] 72) = W0 := ⟨_, rfl⟩
  have hma : Mod [] w Wa := by rw [← hWa]; exact (Mod.refl [] w).alloc _
  have hmb : Mod [] Wa Wb := by rw [← hWb]; exact (Mod.refl [] Wa).alloc _
  have hmc : Mod [] Wb W0 := by rw [← hW0]; exact (Mod.refl [] Wb).alloc _
  have hsa : Wa.heap.size = w.heap.size + 1 := by rw [← hWa]; simp
  have hsb : Wb.heap.size = w.heap.size + 1 + 1 := by rw [← hWb]; simp [hsa]
  have hs0 : W0.heap.size = w.heap.size + 3 := by rw [← hW0]; simp [hsb]
  have hact : Blk W0 w.heap.size 70 #[.int .u8 d, .int .u64 k] := by rw [← hW0, ← hWb, ← hWa]; exact ((Blk.new w _ _).alloc _).alloc _
  have hans : Blk W0 (w.heap.size + 1) 72 #[.int .i64 0, .int .u64 0, .bool false] := by rw [← hW0, ← hWb]; exact (Blk.new' (by rw [hsa]) _ _).alloc _
  have hx : Blk W0 (w.heap.size + 1 + 1) 72 #[.int .i64 0, .int .u64 0, .bool false] := by rw [← hW0]; exact Blk.new' (by rw [hsb]) _ _
  have h3 := ((h.guard (q := w.heap.size) hma (Nat.le_refl _) (by omega)).guard (q := w.heap.size + 1) hmb (by omega) (by omega)).guard (q := w.heap.size + 1 + 1) hmc (by omega) (by omega)
  have hM0 := (hma.trans hmb (by simp)).trans hmc (by simp)
  clear hma hmb hmc h
  rw [← hWb, ← hWa] at hW0
  clear hWa hWb hsa hsb
  obtain ⟨G, hG⟩ : ∃ G, (w.heap.size + 1 + 1) :: (w.heap.size + 1) :: w.heap.size :: P = G := ⟨_, rfl⟩
  rw [hG] at h3
  have HG : Hidden ((w.heap.size ∈ G ∧ w.heap.size + 1 ∈ G ∧ w.heap.size + 1 + 1 ∈ G) ∧ ∀ q ∈ P, q ∈ G) := ⟨by rw [← hG]; simp; exact fun q hq => .inr (.inr (.inr hq))⟩
  clear hG
  have c0 : W0.cell? ⟨w.heap.size, 0, none⟩ = some (.int .u8 d) := hact.cell 0
  have c1 : W0.cell? ⟨w.heap.size, 1, none⟩ = some (.int .u64 k) := hact.cell 1
  have x0 : W0.cell? ⟨w.heap.size + 1 + 1, 0, none⟩ = some (.int .i64 0) := hx.cell 0
  have x1 : W0.cell? ⟨w.heap.size + 1 + 1, 1, none⟩ = some (.int .u64 0) := hx.cell 1
  have x2 : W0.cell? ⟨w.heap.size + 1 + 1, 2, none⟩ = some (.bool false) := hx.cell 2
  have fx0 := hx.frozen 0
  have fx1 := hx.frozen 1
  have fx2 := hx.frozen 2
  obtain ⟨W1, hW1⟩ : ∃ W1, ((W0.setCell ⟨w.heap.size + 1 + 1, 0, none⟩ (.int .i64 0)).setCell ⟨w.heap.size + 1 + 1, 1, none⟩ (.int .u64 0)).setCell ⟨w.heap.size + 1 + 1, 2, none⟩ (.bool false) = W1 := ⟨_, rfl⟩
  have hm1 : Mod [w.heap.size + 1 + 1] W0 W1 := by
    rw [← hW1]
    exact (((Mod.refl _ W0).set (.inl (by simp)) _).set (.inl (by simp)) _).set (.inl (by simp)) _
  have hx1 : Blk W1 (w.heap.size + 1 + 1) 72 #[.int .i64 0, .int .u64 0, .bool false] := by rw [← hW1]; simpa using ((hx.set 0 (.int .i64 0)).set 1 (.int .u64 0)).set 2 (.bool false)
  have hn1 := hans.mod hm1 (by simp)
  have h4 := h3.touch hm1 (fun q hq => by simp at hq; subst hq; exact ⟨HG.out.1.2.2, by omega⟩)
  have hc1 := hact.mod hm1 (by simp; omega)
  have d0 : W1.cell? ⟨w.heap.size, 0, none⟩ = some (.int .u8 d) := hc1.cell 0
  have d1 : W1.cell? ⟨w.heap.size, 1, none⟩ = some (.int .u64 k) := hc1.cell 1
  have HM1 := Hidden.mk (hM0.trans hm1 (by simp; omega))
  have HC : Hidden (Calls Try.prog 16 #[.pointer (some ⟨xb, 0, none⟩), .int .u64 k] W1 fun e w' => e = .returned (.tuple #[.int .u64 ra, .bool rc]) ∧ XM w0 w' xb limit (ks) 9 G ∧ XK w0 G W1 w') := ⟨by have := xm_prev k hk h4; rw [hr] at this; exact this⟩
  have HZ := Hidden.mk (And.intro hx1 hn1)
  clear hact hans hx h3 hk h4 hx1 hn1 hm1 hM0 hc1
  go_enter Try.func48, Try.ntmps48
  go_wp2_with fail
  refine HC.out.mono ?_
  rintro e w2 ⟨rfl, h2, hk2⟩
  have hx2 := HZ.out.1.xk hk2 HG.out.1.2.2
  have hn2 := HZ.out.2.xk hk2 HG.out.1.2.1
  have hl2 : w.heap.size + 1 + 1 < w2.heap.size := hx2.lt
  clear c0 c1 d0 d1 x0 x1 x2 fx0 fx1 fx2 hW0 hW1 HC HZ hs0
  have x0 : w2.cell? ⟨w.heap.size + 1 + 1, 0, none⟩ = some (.int .i64 0) := hx2.cell 0
  have x1 : w2.cell? ⟨w.heap.size + 1 + 1, 1, none⟩ = some (.int .u64 0) := hx2.cell 1
  have x2 : w2.cell? ⟨w.heap.size + 1 + 1, 2, none⟩ = some (.bool false) := hx2.cell 2
  have fx0 := hx2.frozen 0
  have fx1 := hx2.frozen 1
  have fx2 := hx2.frozen 2
  have r0 : w2.cell? ⟨w.heap.size + 1, 0, none⟩ = some (.int .i64 0) := hn2.cell 0
  have r1 : w2.cell? ⟨w.heap.size + 1, 1, none⟩ = some (.int .u64 0) := hn2.cell 1
  have r2 : w2.cell? ⟨w.heap.size + 1, 2, none⟩ = some (.bool false) := hn2.cell 2
  have fr0 := hn2.frozen 0
  have fr1 := hn2.frozen 1
  have fr2 := hn2.frozen 2
  have H2 := Hidden.mk (And.intro h2 hk2)
  clear hx2 hn2 h2 hk2
  go_wp2_with fail
  (try simp only [Exit.inBlock, Exit.then])
  have HS : ∀ END : World, Mod [w.heap.size + 1 + 1, w.heap.size + 1] w2 END → XM w0 END xb limit (ks) 9 P ∧ XK w0 P w END := fun END hE => by
    have hS : ∀ q ∈ [w.heap.size + 1 + 1, w.heap.size + 1], q ∈ G ∧ w.heap.size ≤ q := fun q hq => by
      simp at hq
      rcases hq with rfl | rfl
      · exact ⟨HG.out.1.2.2, by omega⟩
      · exact ⟨HG.out.1.2.1, by omega⟩
    exact ⟨(H2.out.1.touch hE (fun q hq => ⟨(hS q hq).1, Nat.le_trans hw0 (hS q hq).2⟩)).less HG.out.2, ((XK.news HM1.out).trans (H2.out.2.less HG.out.2)).trans (XK.sets hE (fun q hq => ⟨Nat.le_trans hw0 (hS q hq).2, fun hP => by have := HPL.out q hP; have := (hS q hq).2; omega⟩))⟩
  refine bodyPost_ret (v := ansV (0, ra, rc)) (by simp [results, Try.results48, go_sem, r0, r1, r2, x0, x1, x2]) rfl ⟨rfl, HS _ ?_⟩
  repeat (first | with_reducible exact Mod.refl _ _ | with_reducible refine Mod.set ?_ (.inl (by simp)) _ | with_reducible refine Mod.drewN ?_ _ | with_reducible refine Mod.drew ?_)

set_option maxHeartbeats 4000000 in
set_option maxRecDepth 100000 in
theorem do14_min {w0 w : World} {xb limit c : Nat} {ks : List Int} {P : List Nat} (d k : Int) (h : XM w0 w xb limit ks c P) (hk : 0 ≤ k ∧ k < 18446744073709551616) (hd : 0 ≤ d ∧ d ≤ 255) (hm : d % 9 = 6) (ra : Int) (rc : Bool) (hr : selL ks 0 = (ra, rc)) :
    Calls Try.prog 48 #[.pointer (some ⟨xb, 0, none⟩), .agg #[.int .u8 d, .int .u64 k]] w (Did14 w0 w xb limit P (ks, 0, ra, rc) 1) := by
  obtain ⟨hd0, hd1⟩ := hd
  have hw0 := h.facts.2.2.2.2.size
  have HPL := Hidden.mk h.plt
  obtain ⟨Wa, hWa⟩ : ∃ Wa, w.alloc (.cells #[.int .u8 d, .int .u64 k] 70) = Wa := ⟨_, rfl⟩
  obtain ⟨Wb, hWb⟩ : ∃ Wb, Wa.alloc (.cells #[.int .i64 0, .int .u64 0, .bool false] 72) = Wb := ⟨_, rfl⟩
  obtain ⟨W0, hW0⟩ : ∃ W0, Wb.alloc (.cells #[.int .i64 0, .int .u64 0, .bool false] 72) = W0 := ⟨_, rfl⟩
  have hma : Mod [] w Wa := by rw [← hWa]; exact (Mod.refl [] w).alloc _
  have hmb : Mod [] Wa Wb := by rw [← hWb]; exact (Mod.refl [] Wa).alloc _
  have hmc : Mod [] Wb W0 := by rw [← hW0]; exact (Mod.refl [] Wb).alloc _
  have hsa : Wa.heap.size = w.heap.size + 1 := by rw [← hWa]; simp
  have hsb : Wb.heap.size = w.heap.size + 1 + 1 := by rw [← hWb]; simp [hsa]
  have hs0 : W0.heap.size = w.heap.size + 3 := by rw [← hW0]; simp [hsb]
  have hact : Blk W0 w.heap.size 70 #[.int .u8 d, .int .u64 k] := by rw [← hW0, ← hWb, ← hWa]; exact ((Blk.new w _ _).alloc _).alloc _
  have hans : Blk W0 (w.heap.size + 1) 72 #[.int .i64 0, .int .u64 0, .bool false] := by rw [← hW0, ← hWb]; exact (Blk.new' (by rw [hsa]) _ _).alloc _
  have hx : Blk W0 (w.heap.size + 1 + 1) 72 #[.int .i64 0, .int .u64 0, .bool false] := by rw [← hW0]; exact Blk.new' (by rw [hsb]) _ _
  have h3 := ((h.guard (q := w.heap.size) hma (Nat.le_refl _) (by omega)).guard (q := w.heap.size + 1) hmb (by omega) (by omega)).guard (q := w.heap.size + 1 + 1) hmc (by omega) (by omega)
  have hM0 := (hma.trans hmb (by simp)).trans hmc (by simp)
  clear hma hmb hmc h
  rw [← hWb, ← hWa] at hW0
  clear hWa hWb hsa hsb
  obtain ⟨G, hG⟩ : ∃ G, (w.heap.size + 1 + 1) :: (w.heap.size + 1) :: w.heap.size :: P = G := ⟨_, rfl⟩
  rw [hG] at h3
  have HG : Hidden ((w.heap.size ∈ G ∧ w.heap.size + 1 ∈ G ∧ w.heap.size + 1 + 1 ∈ G) ∧ ∀ q ∈ P, q ∈ G) := ⟨by rw [← hG]; simp; exact fun q hq => .inr (.inr (.inr hq))⟩
  clear hG
  have c0 : W0.cell? ⟨w.heap.size, 0, none⟩ = some (.int .u8 d) := hact.cell 0
  have c1 : W0.cell? ⟨w.heap.size, 1, none⟩ = some (.int .u64 k) := hact.cell 1
  have x0 : W0.cell? ⟨w.heap.size + 1 + 1, 0, none⟩ = some (.int .i64 0) := hx.cell 0
  have x1 : W0.cell? ⟨w.heap.size + 1 + 1, 1, none⟩ = some (.int .u64 0) := hx.cell 1
  have x2 : W0.cell? ⟨w.heap.size + 1 + 1, 2, none⟩ = some (.bool false) := hx.cell 2
  have fx0 := hx.frozen 0
  have fx1 := hx.frozen 1
  have fx2 := hx.frozen 2
  obtain ⟨W1, hW1⟩ : ∃ W1, ((W0.setCell ⟨w.heap.size + 1 + 1, 0, none⟩ (.int .i64 0)).setCell ⟨w.heap.size + 1 + 1, 1, none⟩ (.int .u64 0)).setCell ⟨w.heap.size + 1 + 1, 2, none⟩ (.bool false) = W1 := ⟨_, rfl⟩
  have hm1 : Mod [w.heap.size + 1 + 1] W0 W1 := by
    rw [← hW1]
    exact (((Mod.refl _ W0).set (.inl (by simp)) _).set (.inl (by simp)) _).set (.inl (by simp)) _
  have hx1 : Blk W1 (w.heap.size + 1 + 1) 72 #[.int .i64 0, .int .u64 0, .bool false] := by rw [← hW1]; simpa using ((hx.set 0 (.int .i64 0)).set 1 (.int .u64 0)).set 2 (.bool false)
  have hn1 := hans.mod hm1 (by simp)
  have h4 := h3.touch hm1 (fun q hq => by simp at hq; subst hq; exact ⟨HG.out.1.2.2, by omega⟩)
  have hc1 := hact.mod hm1 (by simp; omega)
  have d0 : W1.cell? ⟨w.heap.size, 0, none⟩ = some (.int .u8 d) := hc1.cell 0
  have d1 : W1.cell? ⟨w.heap.size, 1, none⟩ = some (.int .u64 k) := hc1.cell 1
  have HM1 := Hidden.mk (hM0.trans hm1 (by simp; omega))
  have HC : Hidden (Calls Try.prog 34 #[.pointer (some ⟨xb, 0, none⟩)] W1 fun e w' => e = .returned (.tuple #[.int .u64 ra, .bool rc]) ∧ XM w0 w' xb limit (ks) 1 G ∧ XK w0 G W1 w') := ⟨by have := xm_min h4; rw [hr] at this; exact this⟩
  have HZ := Hidden.mk (And.intro hx1 hn1)
  clear hact hans hx h3 hk h4 hx1 hn1 hm1 hM0 hc1
  go_enter Try.func48, Try.ntmps48
  go_wp2_with fail
  refine HC.out.mono ?_
  rintro e w2 ⟨rfl, h2, hk2⟩
  have hx2 := HZ.out.1.xk hk2 HG.out.1.2.2
  have hn2 := HZ.out.2.xk hk2 HG.out.1.2.1
  have hl2 : w.heap.size + 1 + 1 < w2.heap.size := hx2.lt
  clear c0 c1 d0 d1 x0 x1 x2 fx0 fx1 fx2 hW0 hW1 HC HZ hs0
  have x0 : w2.cell? ⟨w.heap.size + 1 + 1, 0, none⟩ = some (.int .i64 0) := hx2.cell 0
  have x1 : w2.cell? ⟨w.heap.size + 1 + 1, 1, none⟩ = some (.int .u64 0) := hx2.cell 1
  have x2 : w2.cell? ⟨w.heap.size + 1 + 1, 2, none⟩ = some (.bool false) := hx2.cell 2
  have fx0 := hx2.frozen 0
  have fx1 := hx2.frozen 1
  have fx2 := hx2.frozen 2
  have r0 : w2.cell? ⟨w.heap.size + 1, 0, none⟩ = some (.int .i64 0) := hn2.cell 0
  have r1 : w2.cell? ⟨w.heap.size + 1, 1, none⟩ = some (.int .u64 0) := hn2.cell 1
  have r2 : w2.cell? ⟨w.heap.size + 1, 2, none⟩ = some (.bool false) := hn2.cell 2
  have fr0 := hn2.frozen 0
  have fr1 := hn2.frozen 1
  have fr2 := hn2.frozen 2
  have H2 := Hidden.mk (And.intro h2 hk2)
  clear hx2 hn2 h2 hk2
  go_wp2_with fail
  (try simp only [Exit.inBlock, Exit.then])
  have HS : ∀ END : World, Mod [w.heap.size + 1 + 1, w.heap.size + 1] w2 END → XM w0 END xb limit (ks) 1 P ∧ XK w0 P w END := fun END hE => by
    have hS : ∀ q ∈ [w.heap.size + 1 + 1, w.heap.size + 1], q ∈ G ∧ w.heap.size ≤ q := fun q hq => by
      simp at hq
      rcases hq with rfl | rfl
      · exact ⟨HG.out.1.2.2, by omega⟩
      · exact ⟨HG.out.1.2.1, by omega⟩
    exact ⟨(H2.out.1.touch hE (fun q hq => ⟨(hS q hq).1, Nat.le_trans hw0 (hS q hq).2⟩)).less HG.out.2, ((XK.news HM1.out).trans (H2.out.2.less HG.out.2)).trans (XK.sets hE (fun q hq => ⟨Nat.le_trans hw0 (hS q hq).2, fun hP => by have := HPL.out q hP; have := (hS q hq).2; omega⟩))⟩
  refine bodyPost_ret (v := ansV (0, ra, rc)) (by simp [results, Try.results48, go_sem, r0, r1, r2, x0, x1, x2]) rfl ⟨rfl, HS _ ?_⟩
  repeat (first | with_reducible exact Mod.refl _ _ | with_reducible refine Mod.set ?_ (.inl (by simp)) _ | with_reducible refine Mod.drewN ?_ _ | with_reducible refine Mod.drew ?_)

set_option maxHeartbeats 4000000 in
set_option maxRecDepth 100000 in
theorem do14_max {w0 w : World} {xb limit c : Nat} {ks : List Int} {P : List Nat} (d k : Int) (h : XM w0 w xb limit ks c P) (hk : 0 ≤ k ∧ k < 18446744073709551616) (hd : 0 ≤ d ∧ d ≤ 255) (hm : d % 9 = 7) (ra : Int) (rc : Bool) (hr : selL ks ((ks.length : Int) - 1) = (ra, rc)) :
    Calls Try.prog 48 #[.pointer (some ⟨xb, 0, none⟩), .agg #[.int .u8 d, .int .u64 k]] w (Did14 w0 w xb limit P (ks, 0, ra, rc) 1) := by
  obtain ⟨hd0, hd1⟩ := hd
  have hw0 := h.facts.2.2.2.2.size
  have HPL := Hidden.mk h.plt
  obtain ⟨Wa, hWa⟩ : ∃ Wa, w.alloc (.cells #[.int .u8 d, .int .u64 k] 70) = Wa := ⟨_, rfl⟩
  obtain ⟨Wb, hWb⟩ : ∃ Wb, Wa.alloc (.cells #[.int .i64 0, .int .u64 0, .bool false] 72) = Wb := ⟨_, rfl⟩
  obtain ⟨W0, hW0⟩ : ∃ W0, Wb.alloc (.cells #[.int .i64 0, .int .u64 0, .bool false] 72) = W0 := ⟨_, rfl⟩
  have hma : Mod [] w Wa := by rw [← hWa]; exact (Mod.refl [] w).alloc _
  have hmb : Mod [] Wa Wb := by rw [← hWb]; exact (Mod.refl [] Wa).alloc _
  have hmc : Mod [] Wb W0 := by rw [← hW0]; exact (Mod.refl [] Wb).alloc _
  have hsa : Wa.heap.size = w.heap.size + 1 := by rw [← hWa]; simp
  have hsb : Wb.heap.size = w.heap.size + 1 + 1 := by rw [← hWb]; simp [hsa]
  have hs0 : W0.heap.size = w.heap.size + 3 := by rw [← hW0]; simp [hsb]
  have hact : Blk W0 w.heap.size 70 #[.int .u8 d, .int .u64 k] := by rw [← hW0, ← hWb, ← hWa]; exact ((Blk.new w _ _).alloc _).alloc _
  have hans : Blk W0 (w.heap.size + 1) 72 #[.int .i64 0, .int .u64 0, .bool false] := by rw [← hW0, ← hWb]; exact (Blk.new' (by rw [hsa]) _ _).alloc _
  have hx : Blk W0 (w.heap.size + 1 + 1) 72 #[.int .i64 0, .int .u64 0, .bool false] := by rw [← hW0]; exact Blk.new' (by rw [hsb]) _ _
  have h3 := ((h.guard (q := w.heap.size) hma (Nat.le_refl _) (by omega)).guard (q := w.heap.size + 1) hmb (by omega) (by omega)).guard (q := w.heap.size + 1 + 1) hmc (by omega) (by omega)
  have hM0 := (hma.trans hmb (by simp)).trans hmc (by simp)
  clear hma hmb hmc h
  rw [← hWb, ← hWa] at hW0
  clear hWa hWb hsa hsb
  obtain ⟨G, hG⟩ : ∃ G, (w.heap.size + 1 + 1) :: (w.heap.size + 1) :: w.heap.size :: P = G := ⟨_, rfl⟩
  rw [hG] at h3
  have HG : Hidden ((w.heap.size ∈ G ∧ w.heap.size + 1 ∈ G ∧ w.heap.size + 1 + 1 ∈ G) ∧ ∀ q ∈ P, q ∈ G) := ⟨by rw [← hG]; simp; exact fun q hq => .inr (.inr (.inr hq))⟩
  clear hG
  have c0 : W0.cell? ⟨w.heap.size, 0, none⟩ = some (.int .u8 d) := hact.cell 0
  have c1 : W0.cell? ⟨w.heap.size, 1, none⟩ = some (.int .u64 k) := hact.cell 1
  have x0 : W0.cell? ⟨w.heap.size + 1 + 1, 0, none⟩ = some (.int .i64 0) := hx.cell 0
  have x1 : W0.cell? ⟨w.heap.size + 1 + 1, 1, none⟩ = some (.int .u64 0) := hx.cell 1
  have x2 : W0.cell? ⟨w.heap.size + 1 + 1, 2, none⟩ = some (.bool false) := hx.cell 2
  have fx0 := hx.frozen 0
  have fx1 := hx.frozen 1
  have fx2 := hx.frozen 2
  obtain ⟨W1, hW1⟩ : ∃ W1, ((W0.setCell ⟨w.heap.size + 1 + 1, 0, none⟩ (.int .i64 0)).setCell ⟨w.heap.size + 1 + 1, 1, none⟩ (.int .u64 0)).setCell ⟨w.heap.size + 1 + 1, 2, none⟩ (.bool false) = W1 := ⟨_, rfl⟩
  have hm1 : Mod [w.heap.size + 1 + 1] W0 W1 := by
    rw [← hW1]
    exact (((Mod.refl _ W0).set (.inl (by simp)) _).set (.inl (by simp)) _).set (.inl (by simp)) _
  have hx1 : Blk W1 (w.heap.size + 1 + 1) 72 #[.int .i64 0, .int .u64 0, .bool false] := by rw [← hW1]; simpa using ((hx.set 0 (.int .i64 0)).set 1 (.int .u64 0)).set 2 (.bool false)
  have hn1 := hans.mod hm1 (by simp)
  have h4 := h3.touch hm1 (fun q hq => by simp at hq; subst hq; exact ⟨HG.out.1.2.2, by omega⟩)
  have hc1 := hact.mod hm1 (by simp; omega)
  have d0 : W1.cell? ⟨w.heap.size, 0, none⟩ = some (.int .u8 d) := hc1.cell 0
  have d1 : W1.cell? ⟨w.heap.size, 1, none⟩ = some (.int .u64 k) := hc1.cell 1
  have HM1 := Hidden.mk (hM0.trans hm1 (by simp; omega))
  have HC : Hidden (Calls Try.prog 35 #[.pointer (some ⟨xb, 0, none⟩)] W1 fun e w' => e = .returned (.tuple #[.int .u64 ra, .bool rc]) ∧ XM w0 w' xb limit (ks) 1 G ∧ XK w0 G W1 w') := ⟨by have := xm_max h4; rw [hr] at this; exact this⟩
  have HZ := Hidden.mk (And.intro hx1 hn1)
  clear hact hans hx h3 hk h4 hx1 hn1 hm1 hM0 hc1
  go_enter Try.func48, Try.ntmps48
  go_wp2_with fail
  refine HC.out.mono ?_
  rintro e w2 ⟨rfl, h2, hk2⟩
  have hx2 := HZ.out.1.xk hk2 HG.out.1.2.2
  have hn2 := HZ.out.2.xk hk2 HG.out.1.2.1
  have hl2 : w.heap.size + 1 + 1 < w2.heap.size := hx2.lt
  clear c0 c1 d0 d1 x0 x1 x2 fx0 fx1 fx2 hW0 hW1 HC HZ hs0
  have x0 : w2.cell? ⟨w.heap.size + 1 + 1, 0, none⟩ = some (.int .i64 0) := hx2.cell 0
  have x1 : w2.cell? ⟨w.heap.size + 1 + 1, 1, none⟩ = some (.int .u64 0) := hx2.cell 1
  have x2 : w2.cell? ⟨w.heap.size + 1 + 1, 2, none⟩ = some (.bool false) := hx2.cell 2
  have fx0 := hx2.frozen 0
  have fx1 := hx2.frozen 1
  have fx2 := hx2.frozen 2
  have r0 : w2.cell? ⟨w.heap.size + 1, 0, none⟩ = some (.int .i64 0) := hn2.cell 0
  have r1 : w2.cell? ⟨w.heap.size + 1, 1, none⟩ = some (.int .u64 0) := hn2.cell 1
  have r2 : w2.cell? ⟨w.heap.size + 1, 2, none⟩ = some (.bool false) := hn2.cell 2
  have fr0 := hn2.frozen 0
  have fr1 := hn2.frozen 1
  have fr2 := hn2.frozen 2
  have H2 := Hidden.mk (And.intro h2 hk2)
  clear hx2 hn2 h2 hk2
  go_wp2_with fail
  (try simp only [Exit.inBlock, Exit.then])
  have HS : ∀ END : World, Mod [w.heap.size + 1 + 1, w.heap.size + 1] w2 END → XM w0 END xb limit (ks) 1 P ∧ XK w0 P w END := fun END hE => by
    have hS : ∀ q ∈ [w.heap.size + 1 + 1, w.heap.size + 1], q ∈ G ∧ w.heap.size ≤ q := fun q hq => by
      simp at hq
      rcases hq with rfl | rfl
      · exact ⟨HG.out.1.2.2, by omega⟩
      · exact ⟨HG.out.1.2.1, by omega⟩
    exact ⟨(H2.out.1.touch hE (fun q hq => ⟨(hS q hq).1, Nat.le_trans hw0 (hS q hq).2⟩)).less HG.out.2, ((XK.news HM1.out).trans (H2.out.2.less HG.out.2)).trans (XK.sets hE (fun q hq => ⟨Nat.le_trans hw0 (hS q hq).2, fun hP => by have := HPL.out q hP; have := (hS q hq).2; omega⟩))⟩
  refine bodyPost_ret (v := ansV (0, ra, rc)) (by simp [results, Try.results48, go_sem, r0, r1, r2, x0, x1, x2]) rfl ⟨rfl, HS _ ?_⟩
  repeat (first | with_reducible exact Mod.refl _ _ | with_reducible refine Mod.set ?_ (.inl (by simp)) _ | with_reducible refine Mod.drewN ?_ _ | with_reducible refine Mod.drew ?_)

set_option maxHeartbeats 4000000 in
set_option maxRecDepth 100000 in
theorem do14_clear {w0 w : World} {xb limit c : Nat} {ks : List Int} {P : List Nat} (d k : Int) (h : XM w0 w xb limit ks c P) (hk : 0 ≤ k ∧ k < 18446744073709551616) (hd : 0 ≤ d ∧ d ≤ 255) (hm : d % 9 = 8) :
    Calls Try.prog 48 #[.pointer (some ⟨xb, 0, none⟩), .agg #[.int .u8 d, .int .u64 k]] w (Did14 w0 w xb limit P ([], 0, 0, false) c) := by
  obtain ⟨hd0, hd1⟩ := hd
  have hw0 := h.facts.2.2.2.2.size
  have HPL := Hidden.mk h.plt
  obtain ⟨Wa, hWa⟩ : ∃ Wa, w.alloc (.cells #[.int .u8 d, .int .u64 k] 70) = Wa := ⟨_, rfl⟩
  obtain ⟨Wb, hWb⟩ : ∃ Wb, Wa.alloc (.cells #[.int .i64 0, .int .u64 0, .bool false] 72) = Wb := ⟨_, rfl⟩
  obtain ⟨W0, hW0⟩ : ∃ W0, Wb.alloc (.cells #[.int .i64 0, .int .u64 0, .bool false] 72) = W0 := ⟨_, rfl⟩
  have hma : Mod [] w Wa := by rw [← hWa]; exact (Mod.refl [] w).alloc _
  have hmb : Mod [] Wa Wb := by rw [← hWb]; exact (Mod.refl [] Wa).alloc _
  have hmc : Mod [] Wb W0 := by rw [← hW0]; exact (Mod.refl [] Wb).alloc _
  have hsa : Wa.heap.size = w.heap.size + 1 := by rw [← hWa]; simp
  have hsb : Wb.heap.size = w.heap.size + 1 + 1 := by rw [← hWb]; simp [hsa]
  have hs0 : W0.heap.size = w.heap.size + 3 := by rw [← hW0]; simp [hsb]
  have hact : Blk W0 w.heap.size 70 #[.int .u8 d, .int .u64 k] := by rw [← hW0, ← hWb, ← hWa]; exact ((Blk.new w _ _).alloc _).alloc _
  have hans : Blk W0 (w.heap.size + 1) 72 #[.int .i64 0, .int .u64 0, .bool false] := by rw [← hW0, ← hWb]; exact (Blk.new' (by rw [hsa]) _ _).alloc _
  have hx : Blk W0 (w.heap.size + 1 + 1) 72 #[.int .i64 0, .int .u64 0, .bool false] := by rw [← hW0]; exact Blk.new' (by rw [hsb]) _ _
  have h3 := ((h.guard (q := w.heap.size) hma (Nat.le_refl _) (by omega)).guard (q := w.heap.size + 1) hmb (by omega) (by omega)).guard (q := w.heap.size + 1 + 1) hmc (by omega) (by omega)
  have hM0 := (hma.trans hmb (by simp)).trans hmc (by simp)
  clear hma hmb hmc h
  rw [← hWb, ← hWa] at hW0
  clear hWa hWb hsa hsb
  obtain ⟨G, hG⟩ : ∃ G, (w.heap.size + 1 + 1) :: (w.heap.size + 1) :: w.heap.size :: P = G := ⟨_, rfl⟩
  rw [hG] at h3
  have HG : Hidden ((w.heap.size ∈ G ∧ w.heap.size + 1 ∈ G ∧ w.heap.size + 1 + 1 ∈ G) ∧ ∀ q ∈ P, q ∈ G) := ⟨by rw [← hG]; simp; exact fun q hq => .inr (.inr (.inr hq))⟩
  clear hG
  have c0 : W0.cell? ⟨w.heap.size, 0, none⟩ = some (.int .u8 d) := hact.cell 0
  have c1 : W0.cell? ⟨w.heap.size, 1, none⟩ = some (.int .u64 k) := hact.cell 1
  have x0 : W0.cell? ⟨w.heap.size + 1 + 1, 0, none⟩ = some (.int .i64 0) := hx.cell 0
  have x1 : W0.cell? ⟨w.heap.size + 1 + 1, 1, none⟩ = some (.int .u64 0) := hx.cell 1
  have x2 : W0.cell? ⟨w.heap.size + 1 + 1, 2, none⟩ = some (.bool false) := hx.cell 2
  have fx0 := hx.frozen 0
  have fx1 := hx.frozen 1
  have fx2 := hx.frozen 2
  obtain ⟨W1, hW1⟩ : ∃ W1, ((W0.setCell ⟨w.heap.size + 1 + 1, 0, none⟩ (.int .i64 0)).setCell ⟨w.heap.size + 1 + 1, 1, none⟩ (.int .u64 0)).setCell ⟨w.heap.size + 1 + 1, 2, none⟩ (.bool false) = W1 := ⟨_, rfl⟩
  have hm1 : Mod [w.heap.size + 1 + 1] W0 W1 := by
    rw [← hW1]
    exact (((Mod.refl _ W0).set (.inl (by simp)) _).set (.inl (by simp)) _).set (.inl (by simp)) _
  have hx1 : Blk W1 (w.heap.size + 1 + 1) 72 #[.int .i64 0, .int .u64 0, .bool false] := by rw [← hW1]; simpa using ((hx.set 0 (.int .i64 0)).set 1 (.int .u64 0)).set 2 (.bool false)
  have hn1 := hans.mod hm1 (by simp)
  have h4 := h3.touch hm1 (fun q hq => by simp at hq; subst hq; exact ⟨HG.out.1.2.2, by omega⟩)
  have hc1 := hact.mod hm1 (by simp; omega)
  have d0 : W1.cell? ⟨w.heap.size, 0, none⟩ = some (.int .u8 d) := hc1.cell 0
  have d1 : W1.cell? ⟨w.heap.size, 1, none⟩ = some (.int .u64 k) := hc1.cell 1
  have HM1 := Hidden.mk (hM0.trans hm1 (by simp; omega))
  have HC : Hidden (Calls Try.prog 43 #[.pointer (some ⟨xb, 0, none⟩)] W1 fun e w' => e = .returned (.tuple #[]) ∧ XM w0 w' xb limit ([]) c G ∧ XK w0 G W1 w') := ⟨xm_clear h4⟩
  have HZ := Hidden.mk (And.intro hx1 hn1)
  clear hact hans hx h3 hk h4 hx1 hn1 hm1 hM0 hc1
  go_enter Try.func48, Try.ntmps48
  go_wp2_with fail
  refine HC.out.mono ?_
  rintro e w2 ⟨rfl, h2, hk2⟩
  have hx2 := HZ.out.1.xk hk2 HG.out.1.2.2
  have hn2 := HZ.out.2.xk hk2 HG.out.1.2.1
  have hl2 : w.heap.size + 1 + 1 < w2.heap.size := hx2.lt
  clear c0 c1 d0 d1 x0 x1 x2 fx0 fx1 fx2 hW0 hW1 HC HZ hs0
  have x0 : w2.cell? ⟨w.heap.size + 1 + 1, 0, none⟩ = some (.int .i64 0) := hx2.cell 0
  have x1 : w2.cell? ⟨w.heap.size + 1 + 1, 1, none⟩ = some (.int .u64 0) := hx2.cell 1
  have x2 : w2.cell? ⟨w.heap.size + 1 + 1, 2, none⟩ = some (.bool false) := hx2.cell 2
  have fx0 := hx2.frozen 0
  have fx1 := hx2.frozen 1
  have fx2 := hx2.frozen 2
  have r0 : w2.cell? ⟨w.heap.size + 1, 0, none⟩ = some (.int .i64 0) := hn2.cell 0
  have r1 : w2.cell? ⟨w.heap.size + 1, 1, none⟩ = some (.int .u64 0) := hn2.cell 1
  have r2 : w2.cell? ⟨w.heap.size + 1, 2, none⟩ = some (.bool false) := hn2.cell 2
  have fr0 := hn2.frozen 0
  have fr1 := hn2.frozen 1
  have fr2 := hn2.frozen 2
  have H2 := Hidden.mk (And.intro h2 hk2)
  clear hx2 hn2 h2 hk2
  go_wp2_with fail
  (try simp only [Exit.inBlock, Exit.then])
  have HS : ∀ END : World, Mod [w.heap.size + 1 + 1, w.heap.size + 1] w2 END → XM w0 END xb limit ([]) c P ∧ XK w0 P w END := fun END hE => by
    have hS : ∀ q ∈ [w.heap.size + 1 + 1, w.heap.size + 1], q ∈ G ∧ w.heap.size ≤ q := fun q hq => by
      simp at hq
      rcases hq with rfl | rfl
      · exact ⟨HG.out.1.2.2, by omega⟩
      · exact ⟨HG.out.1.2.1, by omega⟩
    exact ⟨(H2.out.1.touch hE (fun q hq => ⟨(hS q hq).1, Nat.le_trans hw0 (hS q hq).2⟩)).less HG.out.2, ((XK.news HM1.out).trans (H2.out.2.less HG.out.2)).trans (XK.sets hE (fun q hq => ⟨Nat.le_trans hw0 (hS q hq).2, fun hP => by have := HPL.out q hP; have := (hS q hq).2; omega⟩))⟩
  refine bodyPost_ret (v := ansV (0, 0, false)) (by simp [results, Try.results48, go_sem, r0, r1, r2, x0, x1, x2]) rfl ⟨rfl, HS _ ?_⟩
  repeat (first | with_reducible exact Mod.refl _ _ | with_reducible refine Mod.set ?_ (.inl (by simp)) _ | with_reducible refine Mod.drewN ?_ _ | with_reducible refine Mod.drew ?_)

/-- How many steps an act takes at most. -/
def cap14 (d : Int) (c : Nat) : Nat := if d % 9 ≤ 2 then 1000 else if d % 9 = 3 then 1 else if d % 9 = 4 ∨ d % 9 = 5 then 9 else if d % 9 = 6 ∨ d % 9 = 7 then 1 else c
theorem do14 {w0 w : World} {xb limit c : Nat} {ks : List Int} {P : List Nat} (d k : Int) (h : XM w0 w xb limit ks c P) (hk : 0 ≤ k ∧ k < 18446744073709551616) (hd : 0 ≤ d ∧ d ≤ 255) :
    Calls Try.prog 48 #[.pointer (some ⟨xb, 0, none⟩), .agg #[.int .u8 d, .int .u64 k]] w (Did14 w0 w xb limit P (act14 ks limit d k) (cap14 d c)) := by
  unfold act14 cap14
  rcases (show d % 9 = 0 ∨ d % 9 = 1 ∨ d % 9 = 2 ∨ d % 9 = 3 ∨ d % 9 = 4 ∨ d % 9 = 5 ∨ d % 9 = 6 ∨ d % 9 = 7 ∨ d % 9 = 8 by omega) with hm | hm | hm | hm | hm | hm | hm | hm | hm
  · simp only [hm]; exact do14_ins0 d k h hk hd hm
  · simp only [hm]; exact do14_ins1 d k h hk hd hm
  · simp only [hm]; exact do14_del d k h hk hd hm _ _ rfl rfl
  · simp only [hm]; exact do14_has d k h hk hd hm _ rfl
  · simp only [hm]; exact do14_next d k h hk hd hm _ _ rfl
  · simp only [hm]; exact do14_prev d k h hk hd hm _ _ rfl
  · simp only [hm]; exact do14_min d k h hk hd hm _ _ rfl
  · simp only [hm]; exact do14_max d k h hk hd hm _ _ rfl
  · simp only [hm]; exact do14_clear d k h hk hd hm
end Go.Proofs.Ytfioekkegihkoaa
