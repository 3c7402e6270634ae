/- runs.add. -/
import Derived.Test.YthcjnijggebcaaaRuns1
import Derived.Test.YthcjnijggebcaaaRunsM
namespace Go.Proofs.Ythcjnijggebcaaa
open Go.RowKit
set_option linter.unusedVariables false
set_option linter.unusedSimpArgs false
theorem run_info : (Try.prog.info? 34).map (fun i => (i.zero, i.size, i.bytes)) = some (some (.agg #[.int .u16 0, .int .u16 0]), 2, 4) := by kernel_rfl
/-- A row of runs under way: its own, and nothing older has turned. -/
structure WayR (w w' : World) (v : Value) (l : List (Int × Int)) : Prop where
  row : Row w' 34 2 v l.length (rcells l)
  mod : Mod [] w w'
  ge : ∀ b ∈ rb v, w.heap.size ≤ b
section
variable {w w' w2 : World} {v v2 : Value} {l m : List (Int × Int)}
theorem WayR.nil_ (h : Mod [] w w') : WayR w w' (.slice none 0 0) [] := ⟨Row.nil_ _ _ _, h, fun b hb => by simp [rb, Value.ownBlock] at hb⟩
theorem WayR.alloc (h : WayR w w' v l) (o : Obj) : WayR w (w'.alloc o) v l := ⟨h.row.alloc o, h.mod.alloc o, h.ge⟩
theorem WayR.drew (h : WayR w w' v l) : WayR w w'.drew v l := ⟨h.row.drew, h.mod.drew, h.ge⟩
theorem WayR.drewN (h : WayR w w' v l) (q : Nat) : WayR w (w'.drewN q) v l := ⟨h.row.drewN q, h.mod.drewN q, h.ge⟩
theorem WayR.rsl (h : WayR w w' v l) : RSl w' v l := (Row.rsl h.row).2
theorem WayR.next {n : Nat} {xs : List Value} (h : WayR w w' v l) (hr : Row w2 34 2 v2 n xs) (hm : Mod (rb v) w' w2) (hf : ∀ q ∈ rb v2, q ∈ rb v ∨ w'.heap.size ≤ q) (hx : xs = rcells m) (hn : n = m.length) : WayR w w2 v2 m := by
  subst hx hn
  exact ⟨hr, h.mod.trans hm (fun x hx => .inr (h.ge x hx)), fun b hb => (hf b hb).elim (h.ge b) (fun hk => Nat.le_trans h.mod.size hk)⟩
theorem WayR.slice_ (h : WayR w w' v l) : ∃ a cap, v = .slice a l.length cap ∧ l.length ≤ cap ∧ cap ≤ 9223372036854775807 := h.row.slice_
theorem WayR.trans {u : World} (h : WayR w w' v l) (hm : Mod [] u w) : WayR u w' v l := ⟨h.row, hm.trans h.mod (by simp), fun b hb => Nat.le_trans hm.size (h.ge b hb)⟩
theorem WayR.keep (h : WayR w w' v l) (hm : Mod [] w' w2) : WayR w w2 v l := ⟨h.row.mod hm (by simp), h.mod.trans hm (by simp), h.ge⟩
end
theorem rcells_one_ (r : Int × Int) : rcells [r] = [.int .u16 r.1, .int .u16 r.2] := rfl
theorem rcells_set {a : List (Int × Int)} {p : Int × Int} (u : Int) : (rcells (a ++ [p])).set (a.length * 2 + 1) (.int .u16 u) = rcells (a ++ [(p.1, u)]) := by
  rw [rcells_app, rcells_app, rcells_one_, rcells_one_, List.set_append_right _ _ (by rw [rcells_len]; omega), rcells_len, Nat.add_sub_cancel_left]
  rfl
theorem holds_run (w : World) (p q : Int) {b : Nat} (hb : w.heap.size = b) : Holds (w.alloc (.cells #[.int .u16 p, .int .u16 q] 34)) (.slice (some ⟨b, 0, none⟩) 1 1) 1 2 (rcells [(p, q)]) :=
  .inr ⟨_, _, rfl, rfl, (Blk.new' hb _ #[.int .u16 p, .int .u16 q]).news⟩
theorem WayR.last {w0 w : World} {g n cap : Nat} {a : List (Int × Int)} {p q u : Int} (h : WayR w0 w (.slice (some ⟨g, 0, none⟩) (n + 1) cap) (a ++ [(p, q)])) (hn : a.length = n) :
    WayR w0 (w.setCell ⟨g, n * 2 + 1, none⟩ (.int .u16 u)) (.slice (some ⟨g, 0, none⟩) (n + 1) cap) (a ++ [(p, u)]) := by
  subst hn
  have hr := h.row
  rw [show (a ++ [(p, q)]).length = a.length + 1 from by simp] at hr
  have h2 := hr.stored (a.length * 2 + 1) (.int .u16 u)
  rw [rcells_set] at h2
  exact ⟨by rw [show (a ++ [(p, u)]).length = a.length + 1 from by simp]; exact h2, h.mod.set (p := ⟨g, a.length * 2 + 1, none⟩) (.inr (h.ge g (by simp [rb, Value.ownBlock]))) _, h.ge⟩
set_option maxHeartbeats 1000000 in
set_option maxRecDepth 100000 in
theorem add_run {w w0 : World} {v : Value} {l : List (Int × Int)} (h : WayR w0 w v l) (hb : R16 l) (hl : l.length ≤ 1000000) (r : Int × Int) (hr : 0 ≤ r.1 ∧ r.1 < 65536 ∧ 0 ≤ r.2 ∧ r.2 < 65536) :
    Calls Try.prog 80 #[v, .agg #[.int .u16 r.1, .int .u16 r.2]] w fun e w' => ∃ v', e = .returned v' ∧ WayR w0 w' v' (radd l r) ∧ Mod (rb v) w w' := by
  obtain ⟨f, t⟩ := r
  obtain ⟨hr1, hr2, hr3, hr4⟩ : 0 ≤ f ∧ f < 65536 ∧ 0 ≤ t ∧ t < 65536 := hr
  have ef : IntKind.i64.wrap f = f := IntWalk.i64_in _ (by omega)
  have HN := Hidden.mk (h.alloc (.cells #[.int .u16 f, .int .u16 t] 34))
  have hlt := Hidden.mk (fun b hb => h.row.lt (k := b) hb)
  rcases snoc_or l with rfl | ⟨a, ⟨p, q⟩, rfl⟩
  · obtain ⟨ad, cap, rfl, k1, k2⟩ := h.slice_
    have HN2 := Hidden.mk (HN.out.alloc (.cells #[.int .u16 f, .int .u16 t] 34))
    have hh := Hidden.mk (holds_run (w.alloc (.cells #[.int .u16 f, .int .u16 t] 34)) f t (b := w.heap.size + 1) (by simp))
    clear h HN
    go_enter Try.func80, Try.ntmps80
    go_wp2_with fail
    go_quiet (fail)
    have HN3 := Hidden.mk (HN2.out.drewN nq)
    have hh3 := Hidden.mk (hh.out)
    clear HN2
    go_wp2_with (refine wpList_any rfl (.tmp 39) (.tmp 41) 23 rfl 34 (.agg #[.int .u16 0, .int .u16 0]) 2 4 (by kernel_rfl) run_info rfl (by decide) _ _ _ rfl HN3.out.row _ _ _ rfl hh.out (rcells_one _) (by simp) (by simp) ?_; intro b4 c4 w4 hr4 hm4 hf4; have hW4 := Hidden.mk (HN3.out.next (m := radd [] (f, t)) hr4 hm4 hf4 (by simp [rcells, radd_nil]) (by simp [radd_nil])); have hM4 := Hidden.mk (((((Mod.refl _ w).alloc _).alloc _).drewN nq).trans hm4 (fun x hx => .inl hx)); clear hr4 hm4 hf4 HN3)
    go_ret
    exact ⟨_, rfl, hW4.out, hM4.out⟩
  · obtain ⟨g, cap, rfl, hrb, k1, k2, hg, hc, hfz⟩ := h.row.at_ (by simp)
    have hge := h.ge g (by rw [hrb]; simp)
    have hp := hb (p, q) (by simp)
    obtain ⟨hp1, hp2, hp3, hp4⟩ : 0 ≤ p ∧ p < 65536 ∧ 0 ≤ q ∧ q < 65536 := hp
    rw [List.length_append, show [(p, q)].length = 1 from rfl] at hc k1 hl
    have hx : (rcells (a ++ [(p, q)]))[a.length * 2]? = some (.int .u16 p) ∧ (rcells (a ++ [(p, q)]))[a.length * 2 + 1]? = some (.int .u16 q) := rcells_get (i := a.length) (p := (p, q)) (by simp)
    have hc0 := hc (a.length * 2) (by omega)
    have hc1 := hc (a.length * 2 + 1) (by omega)
    rw [hx.1] at hc0
    rw [hx.2] at hc1
    have hf1 := hfz (a.length * 2 + 1)
    have eq1 : IntKind.i64.wrap q = q := IntWalk.i64_in _ (by omega)
    have eq2 : IntKind.i64.wrap (q + 1) = q + 1 := IntWalk.i64_in _ (by omega)
    have hlen : (a ++ [(p, q)]).length = a.length + 1 := by simp
    obtain ⟨n, hn⟩ : ∃ n, a.length = n := ⟨_, rfl⟩
    have HL := Hidden.mk hn
    rw [hlen, hn] at h ⊢
    rw [hn] at hl k1 hc0 hc1 hf1
    have HN2 := Hidden.mk (And.intro h (And.intro hb hge))
    clear HN h hb hx hc hfz hlen hge hrb hlt
    clear hn
    have ew : IntKind.i64.wrap (n : Int) = n := IntWalk.i64_in _ (by omega)
    by_cases hfq : f ≤ q + 1
    · have hfd : decide (f ≤ q + 1) = true := decide_eq_true hfq
      go_enter Try.func80, Try.ntmps80
      go_wp2_with fail
      go_quiet (fail)
      go_wp2_with fail
      have hn0 : (0 : Int) ≤ (n : Int) := by omega
      have hn1 : (n : Int) < (n : Int) + 1 := by omega
      have hn2 : n < n + 1 := by omega
      refine wp_tail 14 (by kernel_rfl) (by kernel_rfl) ?_
      simp only [List.take_succ_cons, List.take_zero, List.drop_succ_cons, List.drop_zero]
      repeat still_step
      refine wpStill_nil ?_
      have HN4 := Hidden.mk ((HN2.out.1.alloc (.cells #[.int .u16 f, .int .u16 t] 34)).drewN (nq + 1))
      rcases Int.lt_or_le q t with hqt | hqt
      · have HX := Hidden.mk (show radd (a ++ [(p, q)]) (f, t) = a ++ [(p, t)] from by rw [radd_snoc, if_pos hfq]; simp only [Int.max_eq_right (Int.le_of_lt hqt)])
        go_wp2_with fail
        go_ret
        exact ⟨_, rfl, by rw [HX.out]; exact HN4.out.last HL.out, (((Mod.refl _ w).alloc _).drewN (nq + 1)).set (p := ⟨g, n * 2 + 1, none⟩) (.inl (by simp [rb, Value.ownBlock])) _⟩
      · have HX := Hidden.mk (show radd (a ++ [(p, q)]) (f, t) = a ++ [(p, q)] from by rw [radd_snoc, if_pos hfq]; simp only [Int.max_eq_left hqt])
        go_wp2_with fail
        go_ret
        exact ⟨_, rfl, by rw [HX.out]; exact HN4.out.last HL.out, (((Mod.refl _ w).alloc _).drewN (nq + 1)).set (p := ⟨g, n * 2 + 1, none⟩) (.inl (by simp [rb, Value.ownBlock])) _⟩
    · have hfd : decide (f ≤ q + 1) = false := decide_eq_false hfq
      have HX := Hidden.mk (show radd (a ++ [(p, q)]) (f, t) = a ++ [(p, q)] ++ [(f, t)] from by rw [radd_snoc, if_neg hfq])
      have HN3 := Hidden.mk (HN2.out.1.alloc (.cells #[.int .u16 f, .int .u16 t] 34))
      have hh := Hidden.mk (holds_run (w.alloc (.cells #[.int .u16 f, .int .u16 t] 34)) f t (b := w.heap.size + 1) (by simp))
      go_enter Try.func80, Try.ntmps80
      go_wp2_with fail
      go_quiet (fail)
      have HN4 := Hidden.mk ((HN3.out.drewN nq).alloc (.cells #[.int .u16 f, .int .u16 t] 34))
      have HR4 := Hidden.mk (show Row _ _ 2 _ (n + 1) _ from by have := HN4.out.row; rwa [show (a ++ [(p, q)]).length = n + 1 from by simp [HL.out]] at this)
      clear HN3
      go_wp2_with (refine wpList_any rfl (.tmp 39) (.tmp 41) 23 rfl 34 (.agg #[.int .u16 0, .int .u16 0]) 2 4 (by kernel_rfl) run_info rfl (by decide) _ _ _ rfl HR4.out _ _ _ rfl hh.out (rcells_one _) (by omega) (by omega) ?_; intro b4 c4 w4 hr4 hm4 hf4; have hW4 := Hidden.mk (HN4.out.next (m := radd (a ++ [(p, q)]) (f, t)) hr4 hm4 hf4 (by rw [HX.out, rcells_app (a ++ [(p, q)])]) (by rw [HX.out]; simp [HL.out])); have hM4 := Hidden.mk (((((Mod.refl _ w).alloc _).drewN nq).alloc _).trans hm4 (fun x hx => .inl hx)); clear hr4 hm4 hf4 HN4)
      go_ret
      exact ⟨_, rfl, hW4.out, hM4.out⟩
end Go.Proofs.Ythcjnijggebcaaa
