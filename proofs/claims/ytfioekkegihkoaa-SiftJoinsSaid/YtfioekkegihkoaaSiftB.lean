/- Sequences into rows: slices.AppendSeq, slices.Collect, sift.keys, sift.Count, sift.First. -/
import Derived.Test.YtfioekkegihkoaaSiftA
import Derived.Test.YtfioekkegihkoaaMw
namespace Go.Proofs.Ytfioekkegihkoaa
open Go.RowKit Go.Shelf
attribute [local go_sem] Oper.semAt_some
set_option linter.unusedVariables false
set_option linter.unusedSimpArgs false
theorem nf1 (g : Nat) (lb : Array Value) (w : World) : (Sem.run Try.prog (binOp BinOp.eql 43 (.func (.func g) #[] lb) .nilFunc) w) = .ok (.bool false) w := by kernel_rfl
theorem nf2 (w : World) : (Sem.run Try.prog (binOp BinOp.eql 43 .nilFunc .nilFunc) w) = .ok (.bool true) w := by kernel_rfl
/-- A list in a row of the call's own. -/
def OwnRow (w : World) (l : List Int) (e : Ending) (w' : World) : Prop := ∃ v, e = .returned v ∧ ISl .u64 w' v l ∧ Mod [] w w' ∧ ∀ b ∈ rb v, w.heap.size ≤ b
set_option maxRecDepth 100000 in
set_option maxHeartbeats 8000000 in
theorem appendSeq {w : World} {g : Nat} {lb : Array Value} {l : List Int} {R : List Nat} (eg : ∀ args W, (callFunc g args).run Try.prog W = .ok (.enter g args) W)
    (hit : ItC Try.prog g lb encK (fun xs _ => xs = l) (fun pre _ => pre <+: l) l.length R [] w) (hR : ∀ q ∈ R, q < w.heap.size) (hl : l.length ≤ 1000000) :
    Calls Try.prog 138 #[.slice none 0 0, .func (.func g) #[] lb] w (OwnRow w l) := by
  obtain ⟨w4, hw4⟩ : ∃ w4, w.alloc (.cells #[.slice none 0 0] 23) = w4 := ⟨_, rfl⟩
  have hm4 : Mod [] w w4 := by rw [← hw4]; exact (Mod.refl [] w).alloc _
  have hs4 : w4.heap.size = w.heap.size + 1 := by rw [← hw4]; simp
  have hI : OutI w w4 w.heap.size [] [w.heap.size] := by
    refine ⟨⟨none, 0, ?_, Row.nil_ _ _ _, by simp [rb, Value.ownBlock]⟩, by simp, by simp, hm4⟩
    rw [← hw4]; exact Blk.new _ _ _
  have HS4 := Hidden.mk (And.intro hs4 (And.intro hI (And.intro (fun q hq => Nat.lt_of_lt_of_le (hR q hq) hm4.size : ∀ q ∈ R, q < w4.heap.size) (And.intro (hit.later hm4 (by simp) hR) hR))))
  clear hm4 hs4 hI hit hR
  refine calls_of_wp_marks Try.func138 rfl ?_
  simp only [Try.ntmps138, List.size_toArray, List.length_cons, List.length_nil, Nat.reduceAdd, Nat.reduceSub, Array.replicate_succ, Array.replicate_zero, List.push_toArray, List.append_toArray, List.nil_append, List.cons_append]
  go_wp2_with fail
  clear hw4
  refine (wpIn_wide (n := 3)).1 ?_
  refine wpIn_rangeCF (α := Int) (gf := g) (lb := lb) (by simp [Act.eval]) eg HS4.out.2.2.2.1 HS4.out.2.2.1 (by simp) (fun _ => rfl)
    (fun pre C W => OutI w W w.heap.size pre C) (fun c pre C W => False)
    (fun s C A B S h hm hS => h.mods hm (fun k hk => ⟨(hS k hk).2, by have h1 := (hS k hk).1; simp at h1; have := HS4.out.1; omega⟩))
    (fun c s C A B S h hm hS => h)
    [w.heap.size] (fun q hq => by simp at hq; subst hq; exact ⟨by have := HS4.out.1; omega, fun h => by have := HS4.out.2.2.2.2 _ h; omega⟩) HS4.out.2.1 ?a1 ?assign ?body ?done ?stop
  case assign =>
    intro l x W K hK
    gi_wp2
    exact hK
  case body =>
    rintro ll pre k C W hI hlen hC
    obtain ⟨b', cap, ho, hR, hge⟩ := hI.out
    have co : W.cell? ⟨w.heap.size, 0, none⟩ = some (.slice b' pre.length cap) := ho.cell 0
    have fo := ho.frozen 0
    have lo := ho.lt
    have hp1000 : pre.length ≤ 999999 := by omega
    obtain ⟨W1, hW1⟩ : ∃ W1, W.alloc (.cells #[.int .u64 k] 22) = W1 := ⟨_, rfl⟩
    have hm1 : Mod [] W W1 := by rw [← hW1]; exact (Mod.refl [] W).alloc _
    have hrow := Hidden.mk (hR.mod hm1 (by simp))
    have hnw : Blk W1 W.heap.size 22 #[.int .u64 k] := by rw [← hW1]; exact Blk.new _ _ _
    have hnews := Hidden.mk hnw.news
    have o1 := Hidden.mk (ho.mod hm1 (by simp))
    have HI := Hidden.mk (And.intro hI (And.intro hm1 (And.intro hge hC)))
    have hW1' := Hidden.mk hW1
    clear hI hm1 hge hR ho hnw hlen hC
    gi_wp2_with (refine wpListIn_appC rfl (.tmp 8) (.tmp 10) 23 rfl 22 (.int .u64 0) 1 8 (by kernel_rfl) infoA64 rfl (by decide) _ _ _ rfl hrow.out _ 1 _ [.int .u64 k] rfl rfl hnews.out (by simp [Value.oneCell']) (by omega) (by omega) ?_; intro b5 c5 w5 hr5 hm5 hf5; have o5 := o1.out.mod hm5 (hrow.out.ty o1.out (by decide)); have co5 : w5.cell? ⟨w.heap.size, 0, none⟩ = some (.slice b' pre.length cap) := o5.cell 0; have fo5 := o5.frozen 0; have lo5 := o5.lt; have H5 := Hidden.mk (And.intro hr5 (And.intro hm5 (And.intro hf5 o5))); clear hr5 hm5 hf5 o5)
    obtain ⟨a1, a2, a3⟩ := out_next (pre := (pre, [])) (C := ([], C)) k HI.out.1 HI.out.2.1 hrow.out HI.out.2.2.1 H5.out.1 H5.out.2.1 H5.out.2.2.1 H5.out.2.2.2 HI.out.2.2.2
    exact ⟨_, a1, a2, a3⟩
  case done =>
    rintro xs C W2 W rfl hm2 hI hC hD
    obtain ⟨b', cap, ho, hR, hge⟩ := hI.out
    have co : W.cell? ⟨w.heap.size, 0, none⟩ = some (.slice b' xs.length cap) := ho.cell 0
    have HF := Hidden.mk (And.intro hI (And.intro hR (And.intro hge (And.intro hC hD))))
    clear hI hC hD ho hR hge hm2
    go_wp2_with fail
    (try simp only [Exit.inBlock, Exit.then])
    refine bodyPostM_ret (D := w4.heap.size) rfl HF.out.2.2.2.2 (results_tmp rfl _ _ _) ?_
    have hp : Mod [w4.heap.size] W (W.putObj w4.heap.size (.deferred none)) := (Mod.refl _ _).putObj (.inl (by simp)) _
    exact ⟨_, rfl, (HF.out.2.1.mod hp (fun k hk hk' => by simp at hk'; subst hk'; exact (HF.out.2.2.2.1 _ (HF.out.2.2.1 _ hk).2).2 rfl)).isl.2, HF.out.1.mod.trans hp (fun q hq => .inr (by simp at hq; subst hq; have := HS4.out.1; omega)), fun k hk => (HF.out.2.2.1 k hk).1⟩
  case stop =>
    rintro c pre C W2 W hpre hm2 hF
    exact hF.elim
set_option maxRecDepth 100000 in
set_option maxHeartbeats 1000000 in
theorem collect {w : World} {g : Nat} {lb : Array Value} {l : List Int} {R : List Nat} (eg : ∀ args W, (callFunc g args).run Try.prog W = .ok (.enter g args) W)
    (hit : ItC Try.prog g lb encK (fun xs _ => xs = l) (fun pre _ => pre <+: l) l.length R [] w) (hR : ∀ q ∈ R, q < w.heap.size) (hl : l.length ≤ 1000000) :
    Calls Try.prog 103 #[.func (.func g) #[] lb] w (OwnRow w l) := by
  have HC := Hidden.mk (appendSeq eg hit hR hl)
  clear hit hR
  go_enter Try.func103, Try.ntmps103
  go_wp2_with fail
  refine HC.out.mono ?_
  rintro e w1 ⟨v, rfl, h1⟩
  go_wp2_with fail
  go_ret
  exact ⟨v, rfl, h1⟩
set_option maxRecDepth 100000 in
set_option maxHeartbeats 1000000 in
theorem sift_keys {w : World} {sv : Value} {l : List Int} {R : List Nat} (h : SeqL w sv l R) (hl : l.length ≤ 1000000) :
    Calls Try.prog 68 #[sv] w (OwnRow w l) := by
  rcases h with ⟨rfl, rfl⟩ | ⟨g, lb, rfl, eg, hit, hR⟩
  · have hnf := nf2
    go_enter Try.func68, Try.ntmps68
    go_wp2_with fail
    go_ret
    exact ⟨_, rfl, ISl.nil_ _ _, Mod.refl _ _, by simp [rb, Value.ownBlock]⟩
  · have HC := Hidden.mk (collect eg hit hR hl)
    have hnf := nf1 g lb
    clear hit hR
    go_enter Try.func68, Try.ntmps68
    go_wp2_with fail
    refine HC.out.mono ?_
    rintro e w1 ⟨v, rfl, h1⟩
    go_wp2_with fail
    go_ret
    exact ⟨v, rfl, h1⟩
set_option maxRecDepth 100000 in
set_option maxHeartbeats 1000000 in
theorem sift_count {w : World} {sv : Value} {l : List Int} {R : List Nat} (h : SeqL w sv l R) (hl : l.length ≤ 1000000) :
    Calls Try.prog 37 #[sv] w fun e w' => e = .returned (.int .i64 (l.length : Nat)) ∧ Mod [] w w' := by
  have HC := Hidden.mk (sift_keys h hl)
  clear h
  go_enter Try.func37, Try.ntmps37
  go_wp2_with fail
  refine HC.out.mono ?_
  rintro e w1 ⟨v, rfl, h1, hm, -⟩
  obtain ⟨pa, cap, rfl, -⟩ := h1.slice_
  have HM := Hidden.mk hm
  clear h1 hm
  go_wp2_with fail
  go_ret
  exact ⟨rfl, HM.out⟩
set_option maxHeartbeats 400000 in
theorem values_call {w : World} {v : Value} {l : List Int} (h : ISl .u64 w v l) (hn : l.length ≤ 1000000) :
    Calls Try.prog 64 #[v] w fun e w' => ∃ g lb, e = .returned (.func (.func g) #[] lb) ∧ SeqL w' (.func (.func g) #[] lb) l (w.heap.size :: rbl v l) ∧ Mod [] w w' ∧ ∀ q ∈ w.heap.size :: rbl v l, q < w'.heap.size := by
  obtain ⟨pa, cap, rfl, -⟩ := h.slice_
  obtain ⟨w1, hw1⟩ : ∃ w1, w.alloc (.cells #[.slice pa l.length cap] 23) = w1 := ⟨_, rfl⟩
  have hm1 : Mod [] w w1 := by rw [← hw1]; exact (Mod.refl [] w).alloc _
  have hb : w1.cell? ⟨w.heap.size, 0, none⟩ = some (.slice pa l.length cap) := by rw [← hw1]; exact (Blk.new w _ _).cell 0
  have H := Hidden.mk (And.intro (values_it (h.news hm1) hn hb) (And.intro hm1 (And.intro (rbl_lt (h.news hm1)) (World.block_lt_of_cell? w1 _ hb))))
  clear hb hm1 h
  go_enter Try.func64, Try.ntmps64
  go_wp2_with fail
  go_ret
  suffices hlt : ∀ q ∈ w.heap.size :: rbl (.slice pa l.length cap) l, q < w1.heap.size from ⟨_, _, rfl, .inr ⟨_, _, rfl, enters_of Try.func102 (by kernel_rfl) rfl, H.out.1, hlt⟩, H.out.2.1, ⟨hlt _ (by simp), fun q hq => hlt q (by simp [hq])⟩⟩
  intro q hq
  rcases List.mem_cons.1 hq with rfl | hq
  · exact H.out.2.2.2
  · exact H.out.2.2.1 q hq
end Go.Proofs.Ytfioekkegihkoaa
