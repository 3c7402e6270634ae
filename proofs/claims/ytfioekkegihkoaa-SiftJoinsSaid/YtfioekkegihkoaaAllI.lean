/- Texts joined: AllI, Same01. -/
import Derived.Test.YtfioekkegihkoaaItA
import Derived.Test.YtfioekkegihkoaaGSl
import Derived.Test.YtfioekkegihkoaaProg
import Derived.RangeFuncCalls
import Derived.OwnWalkIn
import Derived.TacticsInMore
import Derived.LoopNIn
import Derived.LoopIn
import Derived.Shelf.Abstract
import Derived.Shelf.RegionOpen
import Derived.Test.YtfioekkegihkoaaRange
import Derived.Test.YtfioekkegihkoaaGOrd
set_option linter.unusedVariables false
set_option linter.unusedSimpArgs false
/- The first ones of what an iterator tells: the row under way in the range's body. No program in sight but for its types. -/
namespace Go.Proofs.Ytfioekkegihkoaa
open Go.RowKit
set_option linter.unusedVariables false
set_option linter.unusedSimpArgs false
theorem infoA64 : (Try.prog.info? 22).map (fun i => (i.zero, i.size, i.bytes)) = some (some (.int .u64 0), 1, 8) := by kernel_rfl
attribute [local go_sem] Oper.semAt_some
theorem wpListIn_appC {F : Fence} {N : Nat} {P : Program} {w : World} {ops : Array Oper} {rest : List Oper} {o : Oper} {a : Act} {Q : Exit → Act → World → Prop} (hgd : o.guard = none) (s x : Operand) (t : TypeId)
    (ho : o.op = .call { callee := .builtin .append, args := #[s, x], argTypes := #[t, t] })
    (e : TypeId) (z : Value) (size bytes : Nat) (ht : P.underlying t = some (.slice e)) (hi : (P.info? e).map (fun i => (i.zero, i.size, i.bytes)) = some (some z, size, bytes))
    (hzs : z.cells.size = size) (hsz : 0 < size)
    (v : Value) (n : Nat) (xs : List Value) (hs : a.eval s = v) (hown : Row w e size v n xs)
    (ad : Addr) (m c : Nat) (news : List Value) (hx : a.eval x = .slice (some ad) m c) (hl : news.length = m * size) (hnews : ∀ j u, news[j]? = some u → w.cell? (ad.add j) = some u) (h1 : ∀ u ∈ news, u.oneCell' = true)
    (h63 : n + m ≤ 9223372036854775807) (hbytes : (n + m) * bytes ≤ 140737488355328)
    (h : ∀ b cap w', Row w' e size (.slice b (n + m) cap) (n + m) (xs ++ news) → Mod (rb v) w w' → (∀ k ∈ rb (.slice b (n + m) cap), k ∈ rb v ∨ w.heap.size ≤ k) → wpListIn F N P ops Q rest (a.put o.dst (.slice b (n + m) cap)) w') : wpListIn F N P ops Q (o :: rest) a w := by
  obtain ⟨i, hi', hz, hsize, hby⟩ := info_parts hi
  obtain ⟨v', w', hr, h2, h3, h4⟩ := append_where (P := P) (w := w) t o.type e i z size bytes ht hi' hz hsize hby hzs hsz v n xs hown ad m c news hl hnews h1 h63 hbytes
  obtain ⟨b, cap, rfl, _⟩ := h2.slice_
  refine wpListIn_plain hgd (fun K hK => ⟨?_, ?_⟩)
  · simp [Oper.about, ho, resolve, Target.leads, Sem.run_pure]
  · rw [Oper.semAt_plain F _ _ (by rw [ho]; intro c hc'; cases hc')]
    simp [execOp, ho, resolve, invoke, builtin, hs, hx, hr, Result.andThen]
    exact hK _ _ (h b cap w' h2 h3 h4)
/-- What a caller that gathers keys in the box q keeps: blocks C of its own. -/
structure OutI (w W : World) (q : Nat) (pre : List Int) (C : List Nat) : Prop where
  out : ∃ b cap, Blk W q 23 #[.slice b pre.length cap] ∧ Row W 22 1 (.slice b pre.length cap) pre.length (icells .u64 pre) ∧ (∀ k ∈ rb (.slice b pre.length cap), w.heap.size ≤ k ∧ k ∈ C)
  hq : w.heap.size ≤ q ∧ q ∈ C
  ge : ∀ k ∈ C, w.heap.size ≤ k
  mod : Mod [] w W
theorem OutI.mods {w W W' : World} {q : Nat} {pre : List Int} {C S : List Nat} (h : OutI w W q pre C) (hm : Mod S W W') (hS : ∀ k ∈ S, k ∉ C ∧ w.heap.size ≤ k) : OutI w W' q pre C := by
  obtain ⟨⟨b, cap, h1, h2, h3⟩, hq, hg, hM⟩ := h
  exact ⟨⟨b, cap, h1.mod hm (fun hk => (hS _ hk).1 hq.2), h2.mod hm (fun k hk hk' => (hS k hk').1 (h3 k hk).2), h3⟩, hq, hg, hM.trans hm (fun x hx => .inr (hS x hx).2)⟩
theorem out_next {w W W1 w5 : World} {q : Nat} {pre C : List Int × List Nat} {b b5 : Option Addr} {cap c5 : Nat} (x : Int) (hI : OutI w W q pre.1 C.2) (hm1 : Mod [] W W1) (hR : Row W1 22 1 (.slice b pre.1.length cap) pre.1.length (icells .u64 pre.1))
    (hge : ∀ k ∈ rb (.slice b pre.1.length cap), w.heap.size ≤ k ∧ k ∈ C.2) (hr5 : Row w5 22 1 (.slice b5 (pre.1.length + 1) c5) (pre.1.length + 1) (icells .u64 pre.1 ++ [.int .u64 x])) (hm5 : Mod (rb (.slice b pre.1.length cap)) W1 w5)
    (hf5 : ∀ k ∈ rb (.slice b5 (pre.1.length + 1) c5), k ∈ rb (.slice b pre.1.length cap) ∨ W1.heap.size ≤ k) (o5 : Blk w5 q 23 #[.slice b pre.1.length cap]) (hC : ∀ k ∈ C.2, k < W.heap.size) :
    Mod C.2 W (w5.setCell ⟨q, 0, none⟩ (.slice b5 (pre.1.length + 1) c5)) ∧ NewC C.2 (C.2 ++ rb (.slice b5 (pre.1.length + 1) c5)) W (w5.setCell ⟨q, 0, none⟩ (.slice b5 (pre.1.length + 1) c5)) ∧
      OutI w (w5.setCell ⟨q, 0, none⟩ (.slice b5 (pre.1.length + 1) c5)) q (pre.1 ++ [x]) (C.2 ++ rb (.slice b5 (pre.1.length + 1) c5)) := by
  obtain ⟨pre, _⟩ := pre
  obtain ⟨_, C⟩ := C
  dsimp only at *
  have hs : Mod [q] w5 (w5.setCell ⟨q, 0, none⟩ (.slice b5 (pre.length + 1) c5)) := (Mod.refl _ w5).set (.inl (by simp)) _
  have hsz1 := hm1.size
  have hsz5 := hm5.size
  have hszs := hs.size
  have hwW := hI.mod.size
  have hM : Mod C W (w5.setCell ⟨q, 0, none⟩ (.slice b5 (pre.length + 1) c5)) :=
    ((hm1.mono (T := C) (by simp)).trans hm5 (fun k hk => .inl (hge k hk).2)).trans hs (fun k hk => .inl (by simp at hk; subst hk; exact hI.hq.2))
  have hr6 := hr5.mod hs (fun k hk hk' => by simp at hk'; subst hk'; exact (hr5.ty o5 (by decide)) hk)
  have hlt6 : ∀ k ∈ rb (.slice b5 (pre.length + 1) c5), k < (w5.setCell ⟨q, 0, none⟩ (.slice b5 (pre.length + 1) c5)).heap.size := fun k hk => Row.lt hr6 hk
  have e : (pre ++ [x]).length = pre.length + 1 := by simp
  refine ⟨hM, ?_, ⟨⟨b5, c5, ?_, ?_, ?_⟩, ⟨hI.hq.1, by simp [hI.hq.2]⟩, ?_, ?_⟩⟩
  · intro k hk
    rcases List.mem_append.1 hk with h | h
    · exact ⟨.inl h, by have := hC k h; omega⟩
    · refine ⟨?_, hlt6 k h⟩
      rcases hf5 k h with h1 | h1
      · exact .inl (hge k h1).2
      · exact .inr (by omega)
  · rw [e]; simpa using o5.set 0 (.slice b5 (pre.length + 1) c5)
  · rw [e, show icells .u64 (pre ++ [x]) = icells .u64 pre ++ [.int .u64 x] from by simp [icells]]
    exact hr6
  · rw [e]
    intro k hk
    refine ⟨?_, by simp [hk]⟩
    rcases hf5 k hk with h | h
    · exact (hge k h).1
    · omega
  · intro k hk
    rcases List.mem_append.1 hk with h | h
    · exact hI.ge k h
    · rcases hf5 k h with h1 | h1
      · exact (hge k h1).1
      · omega
  · exact hI.mod.trans hM (fun k hk => .inr (hI.ge k hk))
end Go.Proofs.Ytfioekkegihkoaa

/- stepstone/stepstoneref01.SameKeys: are two lists alike? -/
namespace Go.Proofs.Ytfioekkegihkoaa
open Go.RowKit
set_option linter.unusedVariables false
set_option linter.unusedSimpArgs false
theorem eq_of_get1 {a b : List Int} (h : a.length = b.length) (h2 : ∀ i, i < a.length → a.getD i 0 = b.getD i 0) : a = b := by
  apply List.ext_getElem h
  intro i h3 h4
  have := h2 i h3
  rwa [get_at h3, get_at h4] at this
set_option maxHeartbeats 1000000 in
theorem same01 {w : World} {va vb : Value} {a b : List Int} (ha : ISl .u64 w va a) (hb : ISl .u64 w vb b) (hla : a.length ≤ 1000000) (hlb : b.length ≤ 1000000) :
    Calls Try.prog 40 #[va, vb] w fun e w' => e = .returned (.bool (decide (a = b))) ∧ ∃ q, w' = w.drewN q := by
  obtain ⟨pa, ca, rfl, _⟩ := ha.slice_
  obtain ⟨pb, cb, rfl, _⟩ := hb.slice_
  by_cases hlen : a.length = b.length
  · obtain ⟨X, hX⟩ : ∃ X : Nat → Int, ∀ t, X t = a.getD t 0 := ⟨fun t => a.getD t 0, fun _ => rfl⟩
    obtain ⟨Y, hY⟩ : ∃ Y : Nat → Int, ∀ t, Y t = b.getD t 0 := ⟨fun t => b.getD t 0, fun _ => rfl⟩
    have HCA : Hidden (∀ p, p < a.length → ∃ g off, pa = some ⟨g, off, none⟩ ∧ w.cell? ⟨g, off + p, none⟩ = some (.int .u64 (X p))) := ⟨fun p hp => by
      obtain ⟨g, off, x, rfl, _, hx, hc⟩ := ha.get hp
      exact ⟨g, off, rfl, by rw [hc, hX, List.getD_eq_getElem?_getD, hx]; rfl⟩⟩
    have HCB : Hidden (∀ p, p < b.length → ∃ g off, pb = some ⟨g, off, none⟩ ∧ w.cell? ⟨g, off + p, none⟩ = some (.int .u64 (Y p))) := ⟨fun p hp => by
      obtain ⟨g, off, x, rfl, _, hx, hc⟩ := hb.get hp
      exact ⟨g, off, rfl, by rw [hc, hY, List.getD_eq_getElem?_getD, hx]; rfl⟩⟩
    have HD : Hidden ((∀ i, i < a.length → X i = Y i) → a = b) := ⟨fun h => eq_of_get1 hlen (fun i hi => by rw [← hX, ← hY]; exact h i hi)⟩
    have HN : Hidden (∀ i, i < a.length → X i ≠ Y i → ¬ a = b) := ⟨fun i hi hne he => hne (by rw [hX, hY, he])⟩
    rw [← hlen] at hlb HCB ⊢
    clear ha hb hX hY hlen
    generalize hn : a.length = n at *
    have HLN := Hidden.mk hn
    clear hn
    have hbn : ((n : Int) != (n : Int)) = false := by simp
    go_enter Try.func40, Try.ntmps40
    go_wp2_with fail
    go_loopw [5, 13] (fun _ vi wr => ∃ (i q : Nat), i ≤ n ∧ vi = .int .i64 i ∧ wr = w.drewN q ∧ ∀ j, j < i → X j = Y j) (fun _ vi _ => n - (intOf vi).toNat)
    case atStart => exact ⟨0, 0, by omega, rfl, rfl, by omega⟩
    case round =>
      obtain ⟨i, q, hi, rfl, rfl, hall⟩ := hrel
      have HALL := Hidden.mk hall
      clear hall
      by_cases hin : i < n
      · obtain ⟨ga, oa, rfl, hca⟩ := HCA.out i hin
        obtain ⟨gb, ob, rfl, hcb⟩ := HCB.out i hin
        have hca2 : (w.drewN q).cell? ⟨ga, oa + i, none⟩ = some (.int .u64 (X i)) := hca
        have hcb2 : (w.drewN q).cell? ⟨gb, ob + i, none⟩ = some (.int .u64 (Y i)) := hcb
        clear hca hcb
        obtain ⟨W, hW⟩ : ∃ W, w.drewN q = W := ⟨_, rfl⟩
        rw [hW] at hca2 hcb2 ⊢
        have HW := Hidden.mk hW
        clear hW
        by_cases heq : X i = Y i
        · have hbq : (X i != Y i) = false := by simp [heq]
          have HE := Hidden.mk heq
          clear heq
          go_wp2_with fail
          go_quiet (fail)
          go_wp2_with fail
          go_roundw
          case rel => exact ⟨i + 1, q + nq, by omega, by go_num, by rw [← HW.out]; exact drewN_add w q nq, fun j hj => by rcases Nat.lt_or_ge j i with h3 | h3; exact HALL.out j h3; (have : j = i := by omega); subst this; exact HE.out⟩
          case measure => simp [intOf]; omega
        · have hbq : (X i != Y i) = true := by simp [heq]
          have HE : Hidden (decide (a = b) = false) := ⟨decide_eq_false (HN.out i hin heq)⟩
          clear heq
          go_wp2_with fail
          go_quiet (fail)
          go_wp2_with fail
          go_ret
          exact ⟨by rw [HE.out]; rfl, q + nq, by rw [← HW.out]; exact drewN_add w q nq⟩
      · have HE : Hidden (decide (a = b) = true) := ⟨decide_eq_true (HD.out (fun j hj => HALL.out j (by omega)))⟩
        go_wp2_with fail
        go_ret
        exact ⟨by rw [HE.out]; rfl, q, rfl⟩
  · have hbn : ((a.length : Int) != (b.length : Int)) = true := by simp; omega
    have HE : Hidden (decide (a = b) = false) := ⟨decide_eq_false (fun h => hlen (by rw [h]))⟩
    clear ha hb hlen
    go_enter Try.func40, Try.ntmps40
    go_wp2_with fail
    go_ret
    exact ⟨by rw [HE.out]; rfl, 0, rfl⟩
end Go.Proofs.Ytfioekkegihkoaa
