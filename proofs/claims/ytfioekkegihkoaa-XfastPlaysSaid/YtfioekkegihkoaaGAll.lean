/- Texts joined: AllI, XfAll, XfNils, All14, All14N, Same01, XfSame. -/
import Derived.Test.YtfioekkegihkoaaGIt
import Derived.Test.YtfioekkegihkoaaGSl
import Derived.Test.YtfioekkegihkoaaProg
import Derived.RangeFuncCalls
import Derived.OwnWalkIn
import Derived.TacticsInMore
import Derived.LoopNIn
import Derived.LoopIn
import Derived.Shelf.Abstract
import Derived.Shelf.RegionOpen
import Derived.Test.YtfioekkegihkoaaGXfR
import Derived.Test.YtfioekkegihkoaaGXfM
import Derived.Test.YtfioekkegihkoaaRange
import Derived.Test.YtfioekkegihkoaaGOrd
import Derived.Test.YtfioekkegihkoaaGXfO
set_option linter.unusedVariables false
set_option linter.unusedSimpArgs false
/- The first ones of what an iterator tells: the row under way in the range's body. No program in sight but for its types. -/
namespace Go.Proofs.Ytfioekkegihkoaa
open Go.RowKit
set_option linter.unusedVariables false
set_option linter.unusedSimpArgs false
theorem infoA64 : (Try.prog.info? 22).map (fun i => (i.zero, i.size, i.bytes)) = some (some (.int .u64 0), 1, 8) := by kernel_rfl
attribute [local go_sem] Oper.semAt_some
theorem wpListIn_appC {F : Fence} {N : Nat} {P : Program} {w : World} {ops : Array Oper} {rest : List Oper} {o : Oper} {a : Act} {Q : Exit → Act → World → Prop} (hgd : o.guard = none) (s x : Operand) (t : TypeId)
    (ho : o.op = .call { callee := .builtin .append, args := #[s, x], argTypes := #[t, t] })
    (e : TypeId) (z : Value) (size bytes : Nat) (ht : P.underlying t = some (.slice e)) (hi : (P.info? e).map (fun i => (i.zero, i.size, i.bytes)) = some (some z, size, bytes))
    (hzs : z.cells.size = size) (hsz : 0 < size)
    (v : Value) (n : Nat) (xs : List Value) (hs : a.eval s = v) (hown : Row w e size v n xs)
    (ad : Addr) (m c : Nat) (news : List Value) (hx : a.eval x = .slice (some ad) m c) (hl : news.length = m * size) (hnews : ∀ j u, news[j]? = some u → w.cell? (ad.add j) = some u) (h1 : ∀ u ∈ news, u.oneCell' = true)
    (h63 : n + m ≤ 9223372036854775807) (hbytes : (n + m) * bytes ≤ 140737488355328)
    (h : ∀ b cap w', Row w' e size (.slice b (n + m) cap) (n + m) (xs ++ news) → Mod (rb v) w w' → (∀ k ∈ rb (.slice b (n + m) cap), k ∈ rb v ∨ w.heap.size ≤ k) → wpListIn F N P ops Q rest (a.put o.dst (.slice b (n + m) cap)) w') : wpListIn F N P ops Q (o :: rest) a w := by
  obtain ⟨i, hi', hz, hsize, hby⟩ := info_parts hi
  obtain ⟨v', w', hr, h2, h3, h4⟩ := append_where (P := P) (w := w) t o.type e i z size bytes ht hi' hz hsize hby hzs hsz v n xs hown ad m c news hl hnews h1 h63 hbytes
  obtain ⟨b, cap, rfl, _⟩ := h2.slice_
  refine wpListIn_plain hgd (fun K hK => ⟨?_, ?_⟩)
  · simp [Oper.about, ho, resolve, Target.leads, Sem.run_pure]
  · rw [Oper.semAt_plain F _ _ (by rw [ho]; intro c hc'; cases hc')]
    simp [execOp, ho, resolve, invoke, builtin, hs, hx, hr, Result.andThen]
    exact hK _ _ (h b cap w' h2 h3 h4)
/-- What a caller that gathers keys in the box q keeps: blocks C of its own. -/
structure OutI (w W : World) (q : Nat) (pre : List Int) (C : List Nat) : Prop where
  out : ∃ b cap, Blk W q 23 #[.slice b pre.length cap] ∧ Row W 22 1 (.slice b pre.length cap) pre.length (icells .u64 pre) ∧ (∀ k ∈ rb (.slice b pre.length cap), w.heap.size ≤ k ∧ k ∈ C)
  hq : w.heap.size ≤ q ∧ q ∈ C
  ge : ∀ k ∈ C, w.heap.size ≤ k
  mod : Mod [] w W
theorem OutI.mods {w W W' : World} {q : Nat} {pre : List Int} {C S : List Nat} (h : OutI w W q pre C) (hm : Mod S W W') (hS : ∀ k ∈ S, k ∉ C ∧ w.heap.size ≤ k) : OutI w W' q pre C := by
  obtain ⟨⟨b, cap, h1, h2, h3⟩, hq, hg, hM⟩ := h
  exact ⟨⟨b, cap, h1.mod hm (fun hk => (hS _ hk).1 hq.2), h2.mod hm (fun k hk hk' => (hS k hk').1 (h3 k hk).2), h3⟩, hq, hg, hM.trans hm (fun x hx => .inr (hS x hx).2)⟩
theorem out_next {w W W1 w5 : World} {q : Nat} {pre C : List Int × List Nat} {b b5 : Option Addr} {cap c5 : Nat} (x : Int) (hI : OutI w W q pre.1 C.2) (hm1 : Mod [] W W1) (hR : Row W1 22 1 (.slice b pre.1.length cap) pre.1.length (icells .u64 pre.1))
    (hge : ∀ k ∈ rb (.slice b pre.1.length cap), w.heap.size ≤ k ∧ k ∈ C.2) (hr5 : Row w5 22 1 (.slice b5 (pre.1.length + 1) c5) (pre.1.length + 1) (icells .u64 pre.1 ++ [.int .u64 x])) (hm5 : Mod (rb (.slice b pre.1.length cap)) W1 w5)
    (hf5 : ∀ k ∈ rb (.slice b5 (pre.1.length + 1) c5), k ∈ rb (.slice b pre.1.length cap) ∨ W1.heap.size ≤ k) (o5 : Blk w5 q 23 #[.slice b pre.1.length cap]) (hC : ∀ k ∈ C.2, k < W.heap.size) :
    Mod C.2 W (w5.setCell ⟨q, 0, none⟩ (.slice b5 (pre.1.length + 1) c5)) ∧ NewC C.2 (C.2 ++ rb (.slice b5 (pre.1.length + 1) c5)) W (w5.setCell ⟨q, 0, none⟩ (.slice b5 (pre.1.length + 1) c5)) ∧
      OutI w (w5.setCell ⟨q, 0, none⟩ (.slice b5 (pre.1.length + 1) c5)) q (pre.1 ++ [x]) (C.2 ++ rb (.slice b5 (pre.1.length + 1) c5)) := by
  obtain ⟨pre, _⟩ := pre
  obtain ⟨_, C⟩ := C
  dsimp only at *
  have hs : Mod [q] w5 (w5.setCell ⟨q, 0, none⟩ (.slice b5 (pre.length + 1) c5)) := (Mod.refl _ w5).set (.inl (by simp)) _
  have hsz1 := hm1.size
  have hsz5 := hm5.size
  have hszs := hs.size
  have hwW := hI.mod.size
  have hM : Mod C W (w5.setCell ⟨q, 0, none⟩ (.slice b5 (pre.length + 1) c5)) :=
    ((hm1.mono (T := C) (by simp)).trans hm5 (fun k hk => .inl (hge k hk).2)).trans hs (fun k hk => .inl (by simp at hk; subst hk; exact hI.hq.2))
  have hr6 := hr5.mod hs (fun k hk hk' => by simp at hk'; subst hk'; exact (hr5.ty o5 (by decide)) hk)
  have hlt6 : ∀ k ∈ rb (.slice b5 (pre.length + 1) c5), k < (w5.setCell ⟨q, 0, none⟩ (.slice b5 (pre.length + 1) c5)).heap.size := fun k hk => Row.lt hr6 hk
  have e : (pre ++ [x]).length = pre.length + 1 := by simp
  refine ⟨hM, ?_, ⟨⟨b5, c5, ?_, ?_, ?_⟩, ⟨hI.hq.1, by simp [hI.hq.2]⟩, ?_, ?_⟩⟩
  · intro k hk
    rcases List.mem_append.1 hk with h | h
    · exact ⟨.inl h, by have := hC k h; omega⟩
    · refine ⟨?_, hlt6 k h⟩
      rcases hf5 k h with h1 | h1
      · exact .inl (hge k h1).2
      · exact .inr (by omega)
  · rw [e]; simpa using o5.set 0 (.slice b5 (pre.length + 1) c5)
  · rw [e, show icells .u64 (pre ++ [x]) = icells .u64 pre ++ [.int .u64 x] from by simp [icells]]
    exact hr6
  · rw [e]
    intro k hk
    refine ⟨?_, by simp [hk]⟩
    rcases hf5 k hk with h | h
    · exact (hge k h).1
    · omega
  · intro k hk
    rcases List.mem_append.1 hk with h | h
    · exact hI.ge k h
    · rcases hf5 k h with h1 | h1
      · exact (hge k h1).1
      · omega
  · exact hI.mod.trans hM (fun k hk => .inr (hI.ge k hk))
end Go.Proofs.Ytfioekkegihkoaa

/- An x-fast trie's iterator. -/
namespace Go.Proofs.Ytfioekkegihkoaa
open Go.RowKit Go.Shelf
attribute [local go_sem] Oper.semAt_some
set_option linter.unusedVariables false
set_option linter.unusedSimpArgs false
set_option maxHeartbeats 400000 in
theorem xf_all (p : Value) (w : World) (hp : ∃ a, p = .pointer a) : Calls Try.prog 90 #[p] w fun e w' => e = .returned (.func (.func 123) #[] #[.pointer (some ⟨w.heap.size, 0, none⟩)]) ∧ w.alloc (.cells #[p] 25) = w' := by
  obtain ⟨a, rfl⟩ := hp
  go_enter Try.func90, Try.ntmps90
  go_wp2
  go_ret
  exact ⟨rfl, rfl⟩
set_option maxRecDepth 100000 in
set_option maxHeartbeats 4000000 in
theorem xf_it {w : World} {xb mb Bt limit : Nat} {F : List Nat} {L : CL} (h : XfAt w xb mb F limit L) (hb : w.cell? ⟨Bt, 0, none⟩ = some (.pointer (some ⟨xb, 0, none⟩))) (hBF : Bt ∉ F) :
    ItC Try.prog 123 #[.pointer (some ⟨Bt, 0, none⟩)] (fun k : Int => #[.int .u64 k]) (fun xs _ => xs = keysC L) (fun pre _ => pre <+: keysC L) L.length (Bt :: F) [] w := by
  intro l J Jx C T W hW hT hC hJ hJx hY h0
  have h1 := h.mod hW (fun k hk hF => hT k hk (by simp [hF]))
  have hBlt : Bt < w.heap.size := by simpa using World.block_lt_of_cell? w _ hb
  have hb1 : W.cell? ⟨Bt, 0, none⟩ = some (.pointer (some ⟨xb, 0, none⟩)) := (World.cell?_of_block (hW.block Bt hBlt (fun h => hT _ h (by simp)))).trans hb
  have hlt1 := h1.lt
  obtain ⟨tb, cb, b0, FT, FC, pr, le, hFe, hI, -⟩ := h1
  have cx : W.cell? ⟨xb, 2, none⟩ = some (.pointer (some ⟨cb, 0, none⟩)) := hI.blk.cell 2
  have hch := hI.chn
  have HS := Hidden.mk (And.intro hch (And.intro h0 (And.intro hJ (And.intro hC (And.intro hlt1 hFe)))))
  have HY := Hidden.mk hY
  have HJX := Hidden.mk hJx
  have hBW : Bt < W.heap.size := by simpa using World.block_lt_of_cell? W _ hb1
  have hxW : xb < W.heap.size := hI.blk.lt
  clear h hb hW hC h0 hJ hY hJx hBlt hT hI hch hlt1 hFe hBF
  refine (callsIn_wide (n := 4)).1 ?_
  refine callsIn_of_wp_marks Try.func123 rfl trivial ?_ rfl
  simp only [Try.ntmps123, List.size_toArray, List.length_cons, List.length_nil, Nat.reduceAdd, Nat.reduceSub, Array.replicate_succ, Array.replicate_zero, List.push_toArray, List.append_toArray, List.nil_append, List.cons_append]
  gi_wp2_with fail
  refine ⟨trivial, ?_⟩
  refine (callsIn_wide.2 (chain_all _ _ ⟨_, rfl⟩)).mono ?_
  rintro e w6 ⟨rfl, hw6⟩
  obtain ⟨W0, hW0⟩ : ∃ W0, W.alloc (.cells #[.func (.yield l) #[] #[]] 32) = W0 := ⟨_, rfl⟩
  rw [hW0] at hw6 ⊢
  have hs0 : W0.heap.size = W.heap.size + 1 := by rw [← hW0]; simp
  have hy0 : Blk W0 W.heap.size 32 #[.func (.yield l) #[] #[]] := by rw [← hW0]; exact Blk.new _ _ _
  have hm0 : Mod [] W W0 := by rw [← hW0]; exact (Mod.refl [] W).alloc _
  have hs6 : w6.heap.size = W.heap.size + 2 := by rw [← hw6]; simp [hs0]
  have hm6 : Mod [] W w6 := by rw [← hw6]; exact hm0.alloc _
  have hy6 : Blk w6 W.heap.size 32 #[.func (.yield l) #[] #[]] := by rw [← hw6]; exact hy0.alloc _
  have hb6 : w6.cell? ⟨W.heap.size + 1, 0, none⟩ = some (.pointer (some ⟨cb, 0, none⟩)) := by
    rw [← hw6, ← hs0]; exact (Blk.new W0 _ _).cell 0
  rw [hs0]
  have hit := chain_it (HS.out.1.mod hm6 (by simp)) hb6
  have hC6 : ∀ q ∈ C, q < w6.heap.size ∧ q ∉ (W.heap.size + 1) :: FC := fun q hq => by
    obtain ⟨h1, h2⟩ := HS.out.2.2.2.1 q hq
    rw [HS.out.2.2.2.2.2] at h2
    simp at h2
    exact ⟨by omega, by simp; exact ⟨by omega, h2.2.2.2⟩⟩
  have hR6 : ∀ q ∈ (W.heap.size + 1) :: FC, q < w6.heap.size := fun q hq => by
    rcases List.mem_cons.1 hq with rfl | hq
    · omega
    · have := HS.out.2.2.2.2.1 q (by rw [HS.out.2.2.2.2.2]; simp [hq]); omega
  have hJ6 := HS.out.2.2.1 _ _ _ _ [] HS.out.2.1 hm6 (by simp)
  have H6 := Hidden.mk (And.intro hs6 (And.intro hy6 (And.intro hit (And.intro hC6 (And.intro hR6 hJ6)))))
  clear hs6 hy6 hit hC6 hR6 hJ6 hm6 hb6 hw6 hm0 hy0 hs0 hW0 hb1 cx hBW hxW
  gi_wp2_with fail
  refine wpIn_rangeCF (α := Nat × Int) (gf := 143) (lb := #[.pointer (some ⟨W.heap.size + 1, 0, none⟩)]) (by simp [Act.eval]) (enters_of Try.func143 (by kernel_rfl) rfl) H6.out.2.2.1 H6.out.2.2.2.2.1 (by simp) (fun _ => rfl)
    (fun pre Cq Wq => J (keysC pre) Cq Wq ∧ (∀ q ∈ Cq, q ≠ W.heap.size) ∧ W.heap.size < Wq.heap.size ∧ Blk Wq W.heap.size 32 #[.func (.yield l) #[] #[]])
    (fun c pre Cq Wq => c = .ret ∧ Jx (keysC pre) Cq Wq)
    (fun s Cq A B S h hm hS => ⟨HS.out.2.2.1 _ _ _ _ S h.1 hm (fun q hq => ⟨.inl (by have h1 := (hS q hq).1; simp at h1; have := H6.out.1; omega), (hS q hq).2⟩), h.2.1, Nat.lt_of_lt_of_le h.2.2.1 hm.size, h.2.2.2.mod hm (fun hq => by have h1 := (hS _ hq).1; simp at h1; have := H6.out.1; omega)⟩)
    (fun c s Cq A B S h hm hS => ⟨h.1, HJX.out _ _ _ _ S h.2 hm (fun q hq => ⟨.inl (by have h1 := (hS q hq).1; simp at h1; have := H6.out.1; omega), (hS q hq).2⟩)⟩)
    C H6.out.2.2.2.1 ⟨H6.out.2.2.2.2.2, fun q hq => by have := (HS.out.2.2.2.1 q hq).1; omega, by have := H6.out.1; omega, H6.out.2.1⟩ ?a1 ?assign ?body ?done ?stop
  case assign =>
    intro l x W K hK
    gi_wp2
    exact hK
  case body =>
    rintro l1 pre ⟨a, k⟩ Cq Wq ⟨hJ, hne, hlt, hy⟩ hlen hCq
    have cy : Wq.cell? ⟨W.heap.size, 0, none⟩ = some (.func (.yield l) #[] #[]) := hy.cell 0
    obtain ⟨fn, tmps, assign, body, hyl, hR⟩ := HY.out (keysC pre) k Cq _ hJ (by simpa [keysC] using hlen) hCq
    replace hR := RoundIn.any (m := 3) hR
    have HQ := Hidden.mk (And.intro hne (And.intro hlt hy))
    clear hJ hne hlt hy hlen hCq
    dsimp only at hyl ⊢
    gi_wp2_with fail
    refine hR.mono ?_
    clear hR hyl
    rintro e W3 ⟨C3, hm3, hn3, ⟨rfl, hJ3⟩ | ⟨rfl, hJ3⟩⟩
    · have HZ := Hidden.mk (And.intro hm3 (And.intro hn3 hJ3))
      clear hm3 hn3 hJ3
      gi_wp2_with fail
      refine ⟨C3, HZ.out.1, HZ.out.2.1, by simpa [keysC] using HZ.out.2.2, fun q hq => ?_, Nat.lt_of_lt_of_le HQ.out.2.1 HZ.out.1.size, HQ.out.2.2.mod HZ.out.1 (fun h => HQ.out.1 _ h rfl)⟩
      rcases (HZ.out.2.1 q hq).1 with h1 | h1
      · exact HQ.out.1 q h1
      · have := HQ.out.2.1; omega
    · have HZ := Hidden.mk (And.intro hm3 (And.intro hn3 hJ3))
      clear hm3 hn3 hJ3
      gi_wp2_with fail
      exact ⟨C3, HZ.out.1, HZ.out.2.1, rfl, by simpa [keysC] using HZ.out.2.2⟩
  case done =>
    rintro xs Cq W2 W3 rfl hm ⟨hJ, -⟩ hCq hD
    have HD := Hidden.mk (And.intro hJ (And.intro hCq hD))
    clear hJ hCq hm
    (try simp only [Exit.inBlock, Exit.then])
    have hp : Mod [w6.heap.size] W3 (W3.putObj w6.heap.size (.deferred none)) := (Mod.refl _ _).putObj (.inl (by simp)) _
    refine (bodyPostM_end (D := w6.heap.size) rfl hD (results_none rfl _ _ _) ⟨⟨_, rfl⟩, Cq, fun q hq => Nat.lt_of_lt_of_le (HD.out.2.1 q hq).1 hp.size, .inl ⟨_, rfl, ?_⟩⟩).2
    exact HS.out.2.2.1 _ _ _ _ _ HD.out.1 hp (fun q hq => by simp at hq; subst hq; exact ⟨.inl (by have := H6.out.1; omega), fun h => (HD.out.2.1 _ h).2 rfl⟩)
  case stop =>
    rintro c pre Cq W2 W3 hpre hm ⟨rfl, hJ⟩ hCq hD
    have HD := Hidden.mk (And.intro hJ (And.intro hCq (And.intro hD hpre)))
    clear hJ hCq hm hpre
    gi_wp2_with fail
    (try simp only [Exit.inBlock, Exit.then])
    have hp : Mod [w6.heap.size] W3 (W3.putObj w6.heap.size (.deferred none)) := (Mod.refl _ _).putObj (.inl (by simp)) _
    refine (bodyPostM_end (D := w6.heap.size) rfl hD (results_none rfl _ _ _) ⟨⟨_, rfl⟩, Cq, fun q hq => Nat.lt_of_lt_of_le (HD.out.2.1 q hq).1 hp.size, .inr ⟨_, HD.out.2.2.2.map _, ?_⟩⟩).1
    exact HJX.out _ _ _ _ _ HD.out.1 hp (fun q hq => by simp at hq; subst hq; exact ⟨.inl (by have := H6.out.1; omega), fun h => (HD.out.2.1 _ h).2 rfl⟩)
end Go.Proofs.Ytfioekkegihkoaa

/- xfast.XFast: a nil one. -/
namespace Go.Proofs.Ytfioekkegihkoaa
open Go.RowKit Go.Shelf
set_option linter.unusedVariables false
set_option linter.unusedSimpArgs false
set_option maxHeartbeats 1000000 in
theorem xf_nil_start (w : World) : Calls Try.prog 56 #[.pointer none] w fun e w' => e = .returned (.bool false) ∧ w = w' := by
  go_enter Try.func56, Try.ntmps56
  go_wp2_with fail
  go_ret
  exact ⟨rfl, rfl⟩
set_option maxHeartbeats 1000000 in
theorem xf_nil_has (k : Int) (w : World) : Calls Try.prog 15 #[.pointer none, .int .u64 k] w fun e w' => e = .returned (.bool false) ∧ w = w' := by
  go_enter Try.func15, Try.ntmps15
  go_wp2_with fail
  refine (xf_nil_start _).mono ?_; rintro e w1 ⟨rfl, rfl⟩
  go_wp2_with fail
  go_ret
  exact ⟨rfl, rfl⟩
set_option maxHeartbeats 1000000 in
theorem xf_nil_next (k : Int) (w : World) : Calls Try.prog 17 #[.pointer none, .int .u64 k] w fun e w' => e = .returned (.tuple #[.int .u64 0, .bool false]) ∧ w = w' := by
  go_enter Try.func17, Try.ntmps17
  go_wp2_with fail
  refine (xf_nil_start _).mono ?_; rintro e w1 ⟨rfl, rfl⟩
  go_wp2_with fail
  go_ret2
  exact ⟨rfl, rfl⟩
set_option maxHeartbeats 1000000 in
theorem xf_nil_prev (k : Int) (w : World) : Calls Try.prog 16 #[.pointer none, .int .u64 k] w fun e w' => e = .returned (.tuple #[.int .u64 0, .bool false]) ∧ w = w' := by
  go_enter Try.func16, Try.ntmps16
  go_wp2_with fail
  refine (xf_nil_start _).mono ?_; rintro e w1 ⟨rfl, rfl⟩
  go_wp2_with fail
  go_ret2
  exact ⟨rfl, rfl⟩
set_option maxHeartbeats 1000000 in
theorem xf_nil_min (w : World) : Calls Try.prog 34 #[.pointer none] w fun e w' => e = .returned (.tuple #[.int .u64 0, .bool false]) ∧ w = w' := by
  go_enter Try.func34, Try.ntmps34
  go_wp2_with fail
  refine (xf_nil_start _).mono ?_; rintro e w1 ⟨rfl, rfl⟩
  go_wp2_with fail
  go_ret2
  exact ⟨rfl, rfl⟩
set_option maxHeartbeats 1000000 in
theorem xf_nil_max (w : World) : Calls Try.prog 35 #[.pointer none] w fun e w' => e = .returned (.tuple #[.int .u64 0, .bool false]) ∧ w = w' := by
  go_enter Try.func35, Try.ntmps35
  go_wp2_with fail
  refine (xf_nil_start _).mono ?_; rintro e w1 ⟨rfl, rfl⟩
  go_wp2_with fail
  go_ret2
  exact ⟨rfl, rfl⟩
set_option maxHeartbeats 1000000 in
theorem xf_nil_insert (k : Int) (w : World) : Calls Try.prog 30 #[.pointer none, .int .u64 k] w fun e w' => e = .returned (.int .i64 3) ∧ w = w' := by
  go_enter Try.func30, Try.ntmps30
  go_wp2_with fail
  go_ret
  exact ⟨rfl, rfl⟩
set_option maxHeartbeats 1000000 in
theorem xf_nil_delete (k : Int) (w : World) : Calls Try.prog 32 #[.pointer none, .int .u64 k] w fun e w' => e = .returned (.int .i64 3) ∧ w = w' := by
  go_enter Try.func32, Try.ntmps32
  go_wp2_with fail
  go_ret
  exact ⟨rfl, rfl⟩
set_option maxHeartbeats 1000000 in
theorem xf_nil_len (w : World) : Calls Try.prog 44 #[.pointer none] w fun e w' => e = .returned (.int .i64 0) ∧ w = w' := by
  go_enter Try.func44, Try.ntmps44
  go_wp2_with fail
  go_ret
  exact ⟨rfl, rfl⟩
set_option maxHeartbeats 1000000 in
theorem xf_nil_used (w : World) : Calls Try.prog 36 #[.pointer none] w fun e w' => e = .returned (.int .i64 0) ∧ w = w' := by
  go_enter Try.func36, Try.ntmps36
  go_wp2_with fail
  go_ret
  exact ⟨rfl, rfl⟩
set_option maxHeartbeats 1000000 in
theorem xf_nil_limit (w : World) : Calls Try.prog 45 #[.pointer none] w fun e w' => e = .returned (.int .i64 0) ∧ w = w' := by
  go_enter Try.func45, Try.ntmps45
  go_wp2_with fail
  go_ret
  exact ⟨rfl, rfl⟩
set_option maxHeartbeats 1000000 in
theorem xf_nil_clear (w : World) : Calls Try.prog 43 #[.pointer none] w fun e w' => e = .returned (.tuple #[]) ∧ w = w' := by
  go_enter Try.func43, Try.ntmps43
  go_wp2_with fail
  go_end0
  exact ⟨rfl, rfl⟩
theorem xf_nil_all1 (l c : Nat) (W : World) (hc : W.cell? ⟨c, 0, none⟩ = some (.pointer none)) : Calls Try.prog 123 #[.func (.yield l) #[] #[], .pointer (some ⟨c, 0, none⟩)] W fun e W' => e = .returned (.tuple #[]) ∧ Mod [] W W' := by
  have hclt : c < W.heap.size := by simpa using World.block_lt_of_cell? W _ hc
  have HM := Hidden.mk ((Mod.refl [] W).alloc (.cells #[.func (.yield l) #[] #[]] 32))
  go_enter Try.func123, Try.ntmps123
  go_wp2_with fail
  (try simp only [Exit.inBlock, Exit.then])
  exact bodyPost_ret (results_none rfl _ _ _) rfl ⟨rfl, HM.out⟩
end Go.Proofs.Ytfioekkegihkoaa

/- stepstonelaw14.all: the first ones, at most so many. -/
namespace Go.Proofs.Ytfioekkegihkoaa
open Go.RowKit Go.Shelf
attribute [local go_sem] Oper.semAt_some
set_option linter.unusedVariables false
set_option linter.unusedSimpArgs false
set_option maxRecDepth 100000 in
set_option maxHeartbeats 8000000 in
theorem all14_any {w : World} {xb : Nat} {ks : List Int} (hks : ks.length ≤ 1000000) (most : Nat) (h1 : 1 ≤ most) (h2 : most ≤ 1000000)
    (hit : ∀ w' Bt, Mod [] w w' → w.heap.size ≤ Bt → Bt < w'.heap.size → w'.cell? ⟨Bt, 0, none⟩ = some (.pointer (some ⟨xb, 0, none⟩)) → ∃ R, (∀ q ∈ R, q = Bt ∨ q < w.heap.size) ∧ (∀ q ∈ R, q < w'.heap.size) ∧ ItC Try.prog 123 #[.pointer (some ⟨Bt, 0, none⟩)] (fun k : Int => #[.int .u64 k]) (fun xs _ => xs = ks) (fun pre _ => pre <+: ks) ks.length R [] w') :
    Calls Try.prog 46 #[.pointer (some ⟨xb, 0, none⟩), .int .i64 most] w fun e w' => ∃ v, e = .returned v ∧ ISl .u64 w' v (ks.take most) ∧ Mod [] w w' ∧ ∀ b ∈ rb v, w.heap.size ≤ b := by
  have HIT := Hidden.mk hit
  clear hit
  refine calls_of_wp_marks Try.func46 rfl ?_
  simp only [Try.ntmps46, List.size_toArray, List.length_cons, List.length_nil, Nat.reduceAdd, Nat.reduceSub, Array.replicate_succ, Array.replicate_zero, List.push_toArray, List.append_toArray, List.nil_append, List.cons_append]
  go_wp2_with fail
  refine (xf_all _ _ ⟨_, rfl⟩).mono ?_; rintro e w4 ⟨rfl, hw4⟩
  have hm4 : Mod [] w w4 := by rw [← hw4]; exact (((Mod.refl [] w).alloc _).alloc _).alloc _
  have hs4 : w4.heap.size = w.heap.size + 3 := by rw [← hw4]; simp
  have hI : OutI w w4 (w.heap.size + 1) [] [w.heap.size + 1] := by
    refine ⟨⟨none, 0, ?_, Row.nil_ _ _ _, by simp [rb, Value.ownBlock]⟩, by simp, by simp, hm4⟩
    rw [← hw4]; exact (Blk.new' (by simp) _ _).alloc _
  have hmo : Blk w4 w.heap.size 3 #[.int .i64 most] := by rw [← hw4]; exact ((Blk.new w _ _).alloc _).alloc _
  have hb4 : w4.cell? ⟨w.heap.size + 2, 0, none⟩ = some (.pointer (some ⟨xb, 0, none⟩)) := by
    rw [← hw4]; exact (Blk.new' (b := w.heap.size + 2) (by simp) 25 #[.pointer (some ⟨xb, 0, none⟩)]).cell 0
  obtain ⟨R, hR1, hR2, hit⟩ := HIT.out w4 (w.heap.size + 2) hm4 (by omega) (by omega) hb4
  have HS4 := Hidden.mk (And.intro hs4 (And.intro hI (And.intro hmo (And.intro hR1 (And.intro hR2 hit)))))
  clear hw4 hm4 hs4 hI hmo hb4 hit hR1 hR2 HIT
  go_wp2_with fail
  refine (wpIn_wide (n := 3)).1 ?_
  refine wpIn_rangeCF (α := Int) (gf := 123) (lb := #[.pointer (some ⟨w.heap.size + 2, 0, none⟩)]) (by simp [Act.eval, World.size_alloc]) (enters_of Try.func123 (by kernel_rfl) rfl) HS4.out.2.2.2.2.2 HS4.out.2.2.2.2.1 (by simp) (fun _ => rfl)
    (fun pre C W => OutI w W (w.heap.size + 1) pre C ∧ pre.length < most ∧ w.heap.size ∉ C ∧ Blk W w.heap.size 3 #[.int .i64 most])
    (fun c pre C W => c = .exit 0 ∧ OutI w W (w.heap.size + 1) pre C ∧ pre.length = most)
    (fun s C A B S h hm hS => ⟨h.1.mods hm (fun k hk => ⟨(hS k hk).2, by have h1 := (hS k hk).1; simp at h1; have := HS4.out.1; omega⟩), h.2.1, h.2.2.1, h.2.2.2.mod hm (fun hk => by have h1 := (hS _ hk).1; simp at h1; have := HS4.out.1; omega)⟩)
    (fun c s C A B S h hm hS => ⟨h.1, h.2.1.mods hm (fun k hk => ⟨(hS k hk).2, by have h1 := (hS k hk).1; simp at h1; have := HS4.out.1; omega⟩), h.2.2⟩)
    [w.heap.size + 1] (fun q hq => by simp at hq; subst hq; exact ⟨by have := HS4.out.1; omega, fun h => by have := HS4.out.2.2.2.1 _ h; omega⟩) ⟨HS4.out.2.1, h1, by simp, HS4.out.2.2.1⟩ ?a1 ?assign ?body ?done ?stop
  case assign =>
    intro l x W K hK
    gi_wp2
    exact hK
  case body =>
    rintro l pre k C W ⟨hI, hlm, hnC, hmo⟩ hlen hC
    obtain ⟨b', cap, ho, hR, hge⟩ := hI.out
    have co : W.cell? ⟨w.heap.size + 1, 0, none⟩ = some (.slice b' pre.length cap) := ho.cell 0
    have fo := ho.frozen 0
    have lo := ho.lt
    have cm : W.cell? ⟨w.heap.size, 0, none⟩ = some (.int .i64 most) := hmo.cell 0
    have hp1000 : pre.length ≤ 999999 := by omega
    obtain ⟨W1, hW1⟩ : ∃ W1, W.alloc (.cells #[.int .u64 k] 22) = W1 := ⟨_, rfl⟩
    have hm1 : Mod [] W W1 := by rw [← hW1]; exact (Mod.refl [] W).alloc _
    have hrow := Hidden.mk (hR.mod hm1 (by simp))
    have hnw : Blk W1 W.heap.size 22 #[.int .u64 k] := by rw [← hW1]; exact Blk.new _ _ _
    have hnews := Hidden.mk hnw.news
    have o1 := Hidden.mk (ho.mod hm1 (by simp))
    have m1 := Hidden.mk (hmo.mod hm1 (by simp))
    have HI := Hidden.mk (And.intro hI (And.intro hm1 (And.intro hge (And.intro hC (And.intro hnC hmo)))))
    have hW1' := Hidden.mk hW1
    clear hI hm1 hge hR ho hnw hlen hC hnC hmo
    have hne1 : w.heap.size ≠ w.heap.size + 1 := by omega
    rcases (show pre.length + 1 = most ∨ pre.length + 1 < most by omega) with hlast | hlast
    · have hnm : ((pre.length : Int) + 1 == (most : Int)) = true := by simp; omega
      have HL := Hidden.mk hlast
      clear hlast
      gi_wp2_with (refine wpListIn_appC rfl (.tmp 10) (.tmp 12) 23 rfl 22 (.int .u64 0) 1 8 (by kernel_rfl) infoA64 rfl (by decide) _ _ _ rfl hrow.out _ 1 _ [.int .u64 k] rfl rfl hnews.out (by simp [Value.oneCell']) (by omega) (by omega) ?_; intro b5 c5 w5 hr5 hm5 hf5; have o5 := o1.out.mod hm5 (hrow.out.ty o1.out (by decide)); have m5 := m1.out.mod hm5 (hrow.out.ty m1.out (by decide)); have co5 : w5.cell? ⟨w.heap.size + 1, 0, none⟩ = some (.slice b' pre.length cap) := o5.cell 0; have fo5 := o5.frozen 0; have lo5 := o5.lt; have cm5 : w5.cell? ⟨w.heap.size, 0, none⟩ = some (.int .i64 most) := m5.cell 0; have H5 := Hidden.mk (And.intro hr5 (And.intro hm5 (And.intro hf5 (And.intro o5 m5)))); clear hr5 hm5 hf5 o5 m5)
      obtain ⟨a1, a2, a3⟩ := out_next (pre := (pre, [])) (C := ([], C)) k HI.out.1 HI.out.2.1 hrow.out HI.out.2.2.1 H5.out.1 H5.out.2.1 H5.out.2.2.1 H5.out.2.2.2.1 HI.out.2.2.2.1
      exact ⟨_, a1, a2, rfl, a3, by rw [List.length_append]; exact HL.out⟩
    · have hnm : ((pre.length : Int) + 1 == (most : Int)) = false := by simp; omega
      have HL := Hidden.mk hlast
      clear hlast
      gi_wp2_with (refine wpListIn_appC rfl (.tmp 10) (.tmp 12) 23 rfl 22 (.int .u64 0) 1 8 (by kernel_rfl) infoA64 rfl (by decide) _ _ _ rfl hrow.out _ 1 _ [.int .u64 k] rfl rfl hnews.out (by simp [Value.oneCell']) (by omega) (by omega) ?_; intro b5 c5 w5 hr5 hm5 hf5; have o5 := o1.out.mod hm5 (hrow.out.ty o1.out (by decide)); have m5 := m1.out.mod hm5 (hrow.out.ty m1.out (by decide)); have co5 : w5.cell? ⟨w.heap.size + 1, 0, none⟩ = some (.slice b' pre.length cap) := o5.cell 0; have fo5 := o5.frozen 0; have lo5 := o5.lt; have cm5 : w5.cell? ⟨w.heap.size, 0, none⟩ = some (.int .i64 most) := m5.cell 0; have H5 := Hidden.mk (And.intro hr5 (And.intro hm5 (And.intro hf5 (And.intro o5 m5)))); clear hr5 hm5 hf5 o5 m5)
      obtain ⟨a1, a2, a3⟩ := out_next (pre := (pre, [])) (C := ([], C)) k HI.out.1 HI.out.2.1 hrow.out HI.out.2.2.1 H5.out.1 H5.out.2.1 H5.out.2.2.1 H5.out.2.2.2.1 HI.out.2.2.2.1
      have hmq : w.heap.size ∉ C ++ rb (.slice b5 (pre.length + 1) c5) := fun h => by
        rcases List.mem_append.1 h with h | h
        · exact HI.out.2.2.2.2.1 h
        · rcases H5.out.2.2.1 _ h with h1 | h1
          · exact HI.out.2.2.2.2.1 (HI.out.2.2.1 _ h1).2
          · have h2 := HI.out.2.2.2.2.2.lt; have h3 := HI.out.2.1.size; omega
      exact ⟨_, a1, a2, a3, by rw [List.length_append]; exact HL.out, hmq, H5.out.2.2.2.2.far hne1 _⟩
  case done =>
    rintro xs C W2 W rfl hm2 ⟨hI, hlm, -, -⟩ hC hD
    have HT : Hidden (xs.take most = xs) := ⟨List.take_of_length_le (by omega)⟩
    obtain ⟨b', cap, ho, hR, hge⟩ := hI.out
    have co : W.cell? ⟨w.heap.size + 1, 0, none⟩ = some (.slice b' xs.length cap) := ho.cell 0
    have HF := Hidden.mk (And.intro hI (And.intro hR (And.intro hge (And.intro hC hD))))
    clear hI hlm hC hD ho hR hge hm2
    go_wp2_with fail
    (try simp only [Exit.inBlock, Exit.then])
    refine bodyPostM_ret (D := w4.heap.size) rfl HF.out.2.2.2.2 (results_tmp rfl _ _ _) ?_
    have hp : Mod [w4.heap.size] W (W.putObj w4.heap.size (.deferred none)) := (Mod.refl _ _).putObj (.inl (by simp)) _
    rw [HT.out]
    exact ⟨_, rfl, (HF.out.2.1.mod hp (fun k hk hk' => by simp at hk'; subst hk'; exact (HF.out.2.2.2.1 _ (HF.out.2.2.1 _ hk).2).2 rfl)).isl.2, HF.out.1.mod.trans hp (fun q hq => .inr (by simp at hq; subst hq; have := HS4.out.1; omega)), fun k hk => (HF.out.2.2.1 k hk).1⟩
  case stop =>
    rintro c pre C W2 W hpre hm2 ⟨rfl, hI, hlm⟩ hC hD
    have HT : Hidden (ks.take most = pre) := ⟨by obtain ⟨t, rfl⟩ := hpre; rw [← hlm]; simp⟩
    obtain ⟨b', cap, ho, hR, hge⟩ := hI.out
    have co : W.cell? ⟨w.heap.size + 1, 0, none⟩ = some (.slice b' pre.length cap) := ho.cell 0
    have HF := Hidden.mk (And.intro hI (And.intro hR (And.intro hge (And.intro hC hD))))
    clear hI hlm hC hD ho hR hge hm2 hpre
    gi_wp2
    go_wp2_with fail
    (try simp only [Exit.inBlock, Exit.then])
    refine bodyPostM_ret (D := w4.heap.size) rfl HF.out.2.2.2.2 (results_tmp rfl _ _ _) ?_
    have hp : Mod [w4.heap.size] W (W.putObj w4.heap.size (.deferred none)) := (Mod.refl _ _).putObj (.inl (by simp)) _
    rw [HT.out]
    exact ⟨_, rfl, (HF.out.2.1.mod hp (fun k hk hk' => by simp at hk'; subst hk'; exact (HF.out.2.2.2.1 _ (HF.out.2.2.1 _ hk).2).2 rfl)).isl.2, HF.out.1.mod.trans hp (fun q hq => .inr (by simp at hq; subst hq; have := HS4.out.1; omega)), fun k hk => (HF.out.2.2.1 k hk).1⟩
end Go.Proofs.Ytfioekkegihkoaa

/- stepstonelaw14.all at a nil trie. -/
namespace Go.Proofs.Ytfioekkegihkoaa
open Go.RowKit Go.Shelf
set_option linter.unusedVariables false
set_option linter.unusedSimpArgs false
set_option maxRecDepth 100000 in
set_option maxHeartbeats 1000000 in
theorem all14_nil (m : Int) (w : World) : Calls Try.prog 46 #[.pointer none, .int .i64 m] w fun e w' => e = .returned (.slice none 0 0) ∧ Mod [] w w' := by
  obtain ⟨w1, hw1⟩ : ∃ w1, (w.alloc (.cells #[.int .i64 m] 3)).alloc (.cells #[.slice none 0 0] 23) = w1 := ⟨_, rfl⟩
  have hc0 : w1.cell? ⟨w.heap.size, 0, none⟩ = some (.int .i64 m) := by rw [← hw1]; simp [go_sem]
  have hc1 : w1.cell? ⟨w.heap.size + 1, 0, none⟩ = some (.slice none 0 0) := by rw [← hw1]; simp [go_sem]
  have hz1 : w1.heap.size = w.heap.size + 2 := by rw [← hw1]; simp
  have hB1 : Mod [] w w1 := by rw [← hw1]; exact ((Mod.refl [] w).alloc _).alloc _
  refine calls_of_wp_marks Try.func46 rfl ?_
  simp only [Try.ntmps46, List.size_toArray, List.length_cons, List.length_nil, Nat.reduceAdd, Nat.reduceSub, Array.replicate_succ, Array.replicate_zero, List.push_toArray, List.append_toArray, List.nil_append, List.cons_append]
  go_wp2_with fail
  refine (xf_all _ _ ⟨_, rfl⟩).mono ?_; rintro e w4 ⟨rfl, hw4⟩
  have hc2 : w4.cell? ⟨w.heap.size + 2, 0, none⟩ = some (.pointer none) := by rw [← hw4, ← hz1]; simp [go_sem]
  have hm4 : Mod [] w1 w4 := by rw [← hw4]; exact (Mod.refl [] w1).alloc _
  have hz4 : w4.heap.size = w.heap.size + 3 := by rw [← hw4]; simp [hz1]
  have hc1' : w4.cell? ⟨w.heap.size + 1, 0, none⟩ = some (.slice none 0 0) := (hm4.below'.cell (p := ⟨w.heap.size + 1, 0, none⟩) (by show w.heap.size + 1 < _; omega)).trans hc1
  clear hw4 hw1 hc0 hc1
  rw [hz1]
  go_wp2_with fail
  refine (wpIn_wide (n := 3)).1 ?_
  refine wpIn_rangeCF (α := Empty) (encs := fun x => x.elim) (S := fun _ _ => True) (Sp := fun _ _ => False) (N := 0) (R := [w.heap.size + 2]) (M := []) (gf := 123) (lb := #[.pointer (some ⟨w.heap.size + 2, 0, none⟩)]) (by simp [Act.eval, World.size_alloc]) (enters_of Try.func123 (by kernel_rfl) rfl) ?it (by simp; omega) (by simp) (fun x => x.elim)
    (fun pre C W => Mod [] w4 W) (fun c pre C W => False) (fun s C A B S h hm hS => h.trans hm (fun q hq => .inr (by have h1 := (hS q hq).1; simp at h1; omega))) (fun c s C A B S h hm hS => h) [] (by simp) (Mod.refl _ _) (fun x => x.elim) ?assign ?body ?done ?stop
  case it =>
    intro l J Jx C T W hW hT hC hJ hJx hY h0
    refine (xf_nil_all1 l _ W ?_).mono ?_
    · exact (World.cell?_of_block (hW.block (w.heap.size + 2) (by omega) (fun h => hT _ h (by simp)))).trans hc2
    · rintro e W' ⟨rfl, hm⟩
      exact ⟨⟨_, rfl⟩, C, fun q hq => Nat.lt_of_lt_of_le (hC q hq).1 hm.size, .inl ⟨[], trivial, hJ _ _ _ _ _ h0 hm (by simp)⟩⟩
  case assign =>
    exact fun l x => x.elim
  case body =>
    exact fun l pre x => x.elim
  case stop =>
    intro c pre C W2 W h
    exact h.elim
  case done =>
    intro xs C W2 W _ _ hM _ hk
    have hc : W.cell? ⟨w.heap.size + 1, 0, none⟩ = some (.slice none 0 0) := (hM.below'.cell (p := ⟨w.heap.size + 1, 0, none⟩) (by show w.heap.size + 1 < _; omega)).trans hc1'
    have hB : Mod [] w W := (hB1.trans hm4 (by simp)).trans hM (by simp)
    have H := Hidden.mk (And.intro hB (And.intro hk (show w.heap.size ≤ w4.heap.size by omega)))
    clear hB hM hk hc1' hc2 hz4 hz1 hB1 hm4
    go_wp2_with fail
    (try simp only [Exit.inBlock, Exit.then])
    refine bodyPostM_ret (D := w4.heap.size) rfl (by simpa using H.out.2.1) (results_tmp rfl _ _ _) ⟨rfl, ?_⟩
    exact H.out.1.putObj (.inr H.out.2.2) _
end Go.Proofs.Ytfioekkegihkoaa

/- stepstone/stepstoneref01.SameKeys: are two lists alike? -/
namespace Go.Proofs.Ytfioekkegihkoaa
open Go.RowKit
set_option linter.unusedVariables false
set_option linter.unusedSimpArgs false
theorem eq_of_get1 {a b : List Int} (h : a.length = b.length) (h2 : ∀ i, i < a.length → a.getD i 0 = b.getD i 0) : a = b := by
  apply List.ext_getElem h
  intro i h3 h4
  have := h2 i h3
  rwa [get_at h3, get_at h4] at this
set_option maxHeartbeats 1000000 in
theorem same01 {w : World} {va vb : Value} {a b : List Int} (ha : ISl .u64 w va a) (hb : ISl .u64 w vb b) (hla : a.length ≤ 1000000) (hlb : b.length ≤ 1000000) :
    Calls Try.prog 40 #[va, vb] w fun e w' => e = .returned (.bool (decide (a = b))) ∧ ∃ q, w' = w.drewN q := by
  obtain ⟨pa, ca, rfl, _⟩ := ha.slice_
  obtain ⟨pb, cb, rfl, _⟩ := hb.slice_
  by_cases hlen : a.length = b.length
  · obtain ⟨X, hX⟩ : ∃ X : Nat → Int, ∀ t, X t = a.getD t 0 := ⟨fun t => a.getD t 0, fun _ => rfl⟩
    obtain ⟨Y, hY⟩ : ∃ Y : Nat → Int, ∀ t, Y t = b.getD t 0 := ⟨fun t => b.getD t 0, fun _ => rfl⟩
    have HCA : Hidden (∀ p, p < a.length → ∃ g off, pa = some ⟨g, off, none⟩ ∧ w.cell? ⟨g, off + p, none⟩ = some (.int .u64 (X p))) := ⟨fun p hp => by
      obtain ⟨g, off, x, rfl, _, hx, hc⟩ := ha.get hp
      exact ⟨g, off, rfl, by rw [hc, hX, List.getD_eq_getElem?_getD, hx]; rfl⟩⟩
    have HCB : Hidden (∀ p, p < b.length → ∃ g off, pb = some ⟨g, off, none⟩ ∧ w.cell? ⟨g, off + p, none⟩ = some (.int .u64 (Y p))) := ⟨fun p hp => by
      obtain ⟨g, off, x, rfl, _, hx, hc⟩ := hb.get hp
      exact ⟨g, off, rfl, by rw [hc, hY, List.getD_eq_getElem?_getD, hx]; rfl⟩⟩
    have HD : Hidden ((∀ i, i < a.length → X i = Y i) → a = b) := ⟨fun h => eq_of_get1 hlen (fun i hi => by rw [← hX, ← hY]; exact h i hi)⟩
    have HN : Hidden (∀ i, i < a.length → X i ≠ Y i → ¬ a = b) := ⟨fun i hi hne he => hne (by rw [hX, hY, he])⟩
    rw [← hlen] at hlb HCB ⊢
    clear ha hb hX hY hlen
    generalize hn : a.length = n at *
    have HLN := Hidden.mk hn
    clear hn
    have hbn : ((n : Int) != (n : Int)) = false := by simp
    go_enter Try.func40, Try.ntmps40
    go_wp2_with fail
    go_loopw [5, 13] (fun _ vi wr => ∃ (i q : Nat), i ≤ n ∧ vi = .int .i64 i ∧ wr = w.drewN q ∧ ∀ j, j < i → X j = Y j) (fun _ vi _ => n - (intOf vi).toNat)
    case atStart => exact ⟨0, 0, by omega, rfl, rfl, by omega⟩
    case round =>
      obtain ⟨i, q, hi, rfl, rfl, hall⟩ := hrel
      have HALL := Hidden.mk hall
      clear hall
      by_cases hin : i < n
      · obtain ⟨ga, oa, rfl, hca⟩ := HCA.out i hin
        obtain ⟨gb, ob, rfl, hcb⟩ := HCB.out i hin
        have hca2 : (w.drewN q).cell? ⟨ga, oa + i, none⟩ = some (.int .u64 (X i)) := hca
        have hcb2 : (w.drewN q).cell? ⟨gb, ob + i, none⟩ = some (.int .u64 (Y i)) := hcb
        clear hca hcb
        obtain ⟨W, hW⟩ : ∃ W, w.drewN q = W := ⟨_, rfl⟩
        rw [hW] at hca2 hcb2 ⊢
        have HW := Hidden.mk hW
        clear hW
        by_cases heq : X i = Y i
        · have hbq : (X i != Y i) = false := by simp [heq]
          have HE := Hidden.mk heq
          clear heq
          go_wp2_with fail
          go_quiet (fail)
          go_wp2_with fail
          go_roundw
          case rel => exact ⟨i + 1, q + nq, by omega, by go_num, by rw [← HW.out]; exact drewN_add w q nq, fun j hj => by rcases Nat.lt_or_ge j i with h3 | h3; exact HALL.out j h3; (have : j = i := by omega); subst this; exact HE.out⟩
          case measure => simp [intOf]; omega
        · have hbq : (X i != Y i) = true := by simp [heq]
          have HE : Hidden (decide (a = b) = false) := ⟨decide_eq_false (HN.out i hin heq)⟩
          clear heq
          go_wp2_with fail
          go_quiet (fail)
          go_wp2_with fail
          go_ret
          exact ⟨by rw [HE.out]; rfl, q + nq, by rw [← HW.out]; exact drewN_add w q nq⟩
      · have HE : Hidden (decide (a = b) = true) := ⟨decide_eq_true (HD.out (fun j hj => HALL.out j (by omega)))⟩
        go_wp2_with fail
        go_ret
        exact ⟨by rw [HE.out]; rfl, q, rfl⟩
  · have hbn : ((a.length : Int) != (b.length : Int)) = true := by simp; omega
    have HE : Hidden (decide (a = b) = false) := ⟨decide_eq_false (fun h => hlen (by rw [h]))⟩
    clear ha hb hlen
    go_enter Try.func40, Try.ntmps40
    go_wp2_with fail
    go_ret
    exact ⟨by rw [HE.out]; rfl, 0, rfl⟩
end Go.Proofs.Ytfioekkegihkoaa

/- stepstonelaw14: all, same. -/
namespace Go.Proofs.Ytfioekkegihkoaa
open Go.RowKit
set_option linter.unusedVariables false
set_option linter.unusedSimpArgs false
/-- The first keys of a trie. -/
theorem all14 {w0 w : World} {xb limit c : Nat} {ks : List Int} {P : List Nat} (h : XM w0 w xb limit ks c P) (hks : ks.length ≤ 1000000) (most : Nat) (h1 : 1 ≤ most) (h2 : most ≤ 1000000) :
    Calls Try.prog 46 #[.pointer (some ⟨xb, 0, none⟩), .int .i64 most] w fun e w' => ∃ v, e = .returned v ∧ ISl .u64 w' v (ks.take most) ∧ Mod [] w w' ∧ ∀ b ∈ rb v, w.heap.size ≤ b := by
  refine all14_any hks most h1 h2 ?_
  intro w' Bt hm hge hlt hb
  obtain ⟨mb, F, L, m, c', hX, _, _, _, _, _, _, rfl⟩ := h
  have hF := hX.lt
  refine ⟨Bt :: F, fun q hq => ?_, fun q hq => ?_, ?_⟩
  · rcases List.mem_cons.1 hq with rfl | hq
    · exact .inl rfl
    · exact .inr (hF q hq)
  · rcases List.mem_cons.1 hq with rfl | hq
    · exact hlt
    · exact Nat.lt_of_lt_of_le (hF q hq) hm.size
  · rw [keysC_len]
    exact xf_it (hX.mod hm (by simp)) hb (fun h => by have := hF _ h; omega)
set_option maxHeartbeats 1000000 in
theorem same14 {w0 w : World} {xb limit c : Nat} {ks l : List Int} {P : List Nat} {v : Value} (h : XM w0 w xb limit ks c P) (hks : ks.length ≤ 100000) (hl : ISl .u64 w v l) (hll : l.length ≤ 100000) :
    Calls Try.prog 33 #[.pointer (some ⟨xb, 0, none⟩), v] w fun e w' => e = .returned (.bool (decide (ks = l))) ∧ Mod [] w w' := by
  obtain ⟨a, cap, rfl, _⟩ := hl.slice_
  have HA := Hidden.mk (all14 h (by omega) 100000 (by omega) (by omega))
  have HH := Hidden.mk (And.intro h (And.intro hl (And.intro hks hll)))
  have e0 : ((100000 : Nat) : Int) = 100000 := rfl
  rw [e0] at HA
  have HL1 : Hidden (ks.length ≤ 1000000) := ⟨by omega⟩
  have HL2 : Hidden (l.length ≤ 1000000) := ⟨by omega⟩
  have HTK : Hidden (List.take 100000 ks = ks) := ⟨List.take_of_length_le hks⟩
  clear h hl hks hll e0
  by_cases heq : ks = l
  · have hln : ((ks.length : Int) == (l.length : Int)) = true := by rw [heq]; simp
    have HE := Hidden.mk heq
    rw [decide_eq_true heq]
    clear heq
    go_enter Try.func33, Try.ntmps33
    go_wp2_with fail
    refine HA.out.mono ?_; rintro e w1 ⟨v1, rfl, hv1, hm1, -⟩
    rw [HTK.out] at hv1
    have HV := Hidden.mk (And.intro hv1 hm1)
    obtain ⟨a1, cap1, rfl, -⟩ := hv1.slice_
    clear hv1 hm1
    go_wp2_with fail
    refine (same01 HV.out.1 (HH.out.2.1.mod HV.out.2 (by simp)) HL1.out HL2.out).mono ?_; rintro e w2 ⟨rfl, q2, rfl⟩
    rw [decide_eq_true HE.out]
    go_wp2_with fail
    refine (xm_len (HH.out.1.news (HV.out.2.drewN q2))).mono ?_; rintro e w3 ⟨rfl, rfl⟩
    go_wp2_with fail
    go_ret
    exact ⟨rfl, HV.out.2.drewN q2⟩
  · have HE := Hidden.mk heq
    rw [decide_eq_false heq]
    clear heq
    go_enter Try.func33, Try.ntmps33
    go_wp2_with fail
    refine HA.out.mono ?_; rintro e w1 ⟨v1, rfl, hv1, hm1, -⟩
    rw [HTK.out] at hv1
    have HV := Hidden.mk (And.intro hv1 hm1)
    obtain ⟨a1, cap1, rfl, -⟩ := hv1.slice_
    clear hv1 hm1
    go_wp2_with fail
    refine (same01 HV.out.1 (HH.out.2.1.mod HV.out.2 (by simp)) HL1.out HL2.out).mono ?_; rintro e w2 ⟨rfl, q2, rfl⟩
    rw [decide_eq_false HE.out]
    go_wp2_with fail
    go_ret
    exact ⟨rfl, HV.out.2.drewN q2⟩
end Go.Proofs.Ytfioekkegihkoaa
