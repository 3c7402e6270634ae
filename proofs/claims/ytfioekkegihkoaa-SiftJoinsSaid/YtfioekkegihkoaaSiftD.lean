/- sift.First: the first ones of a sequence. -/
import Derived.Test.YtfioekkegihkoaaSiftC
namespace Go.Proofs.Ytfioekkegihkoaa
open Go.RowKit Go.Shelf
attribute [local go_sem] Oper.semAt_some
set_option linter.unusedVariables false
set_option linter.unusedSimpArgs false
set_option maxRecDepth 100000 in
set_option maxHeartbeats 8000000 in
theorem first_some {w : World} {g : Nat} {lb : Array Value} {l : List Int} {R : List Nat} (eg : ∀ args W, (callFunc g args).run Try.prog W = .ok (.enter g args) W)
    (hit : ItC Try.prog g lb encK (fun xs _ => xs = l) (fun pre _ => pre <+: l) l.length R [] w) (hR : ∀ q ∈ R, q < w.heap.size) (hl : l.length ≤ 1000000) (n : Nat) (h1 : 1 ≤ n) (h2 : n ≤ 9223372036854775807) :
    Calls Try.prog 42 #[.func (.func g) #[] lb, .int .i64 n] w (OwnRow w (l.take n)) := by
  obtain ⟨w4, hw4⟩ : ∃ w4, (w.alloc (.cells #[.int .i64 n] 3)).alloc (.cells #[.slice none 0 0] 23) = w4 := ⟨_, rfl⟩
  have hm4 : Mod [] w w4 := by rw [← hw4]; exact ((Mod.refl [] w).alloc _).alloc _
  have hs4 : w4.heap.size = w.heap.size + 2 := by rw [← hw4]; simp
  have hI : OutI w w4 (w.heap.size + 1) [] [w.heap.size + 1] := by
    refine ⟨⟨none, 0, ?_, Row.nil_ _ _ _, by simp [rb, Value.ownBlock]⟩, by simp, by simp, hm4⟩
    rw [← hw4]; exact Blk.new' (by simp) _ _
  have hmo : Blk w4 w.heap.size 3 #[.int .i64 n] := by rw [← hw4]; exact (Blk.new w _ _).alloc _
  have cn : w4.cell? ⟨w.heap.size, 0, none⟩ = some (.int .i64 n) := hmo.cell 0
  have HS4 := Hidden.mk (And.intro hs4 (And.intro hI (And.intro hmo (And.intro hR (And.intro (fun q hq => Nat.lt_of_lt_of_le (hR q hq) hm4.size : ∀ q ∈ R, q < w4.heap.size) (hit.later hm4 (by simp) hR))))))
  have hnf := nf1 g lb
  have hn1 : decide ((n : Int) < 1) = false := decide_eq_false (by omega)
  clear hm4 hs4 hI hmo hit hR
  refine calls_of_wp_marks Try.func42 rfl ?_
  simp only [Try.ntmps42, List.size_toArray, List.length_cons, List.length_nil, Nat.reduceAdd, Nat.reduceSub, Array.replicate_succ, Array.replicate_zero, List.push_toArray, List.append_toArray, List.nil_append, List.cons_append]
  go_wp2_with fail
  clear hw4 cn hn1 hnf
  refine (wpIn_wide (n := 3)).1 ?_
  refine wpIn_rangeCF (α := Int) (gf := g) (lb := lb) (by simp [Act.eval]) eg HS4.out.2.2.2.2.2 HS4.out.2.2.2.2.1 (by simp) (fun _ => rfl)
    (fun pre C W => OutI w W (w.heap.size + 1) pre C ∧ pre.length < n ∧ w.heap.size ∉ C ∧ Blk W w.heap.size 3 #[.int .i64 n])
    (fun c pre C W => c = .exit 0 ∧ OutI w W (w.heap.size + 1) pre C ∧ pre.length = n)
    (fun s C A B S h hm hS => ⟨h.1.mods hm (fun k hk => ⟨(hS k hk).2, by have h1 := (hS k hk).1; simp at h1; have := HS4.out.1; omega⟩), h.2.1, h.2.2.1, h.2.2.2.mod hm (fun hk => by have h1 := (hS _ hk).1; simp at h1; have := HS4.out.1; omega)⟩)
    (fun c s C A B S h hm hS => ⟨h.1, h.2.1.mods hm (fun k hk => ⟨(hS k hk).2, by have h1 := (hS k hk).1; simp at h1; have := HS4.out.1; omega⟩), h.2.2⟩)
    [w.heap.size + 1] (fun q hq => by simp at hq; subst hq; exact ⟨by have := HS4.out.1; omega, fun h => by have := HS4.out.2.2.2.1 _ h; omega⟩) ⟨HS4.out.2.1, h1, by simp, HS4.out.2.2.1⟩ ?a1 ?assign ?body ?done ?stop
  case assign =>
    intro ll x W K hK
    gi_wp2
    exact hK
  case body =>
    rintro ll pre k C W ⟨hI, hlm, hnC, hmo⟩ hlen hC
    obtain ⟨b', cap, ho, hR, hge⟩ := hI.out
    have co : W.cell? ⟨w.heap.size + 1, 0, none⟩ = some (.slice b' pre.length cap) := ho.cell 0
    have fo := ho.frozen 0
    have lo := ho.lt
    have cm : W.cell? ⟨w.heap.size, 0, none⟩ = some (.int .i64 n) := hmo.cell 0
    have hp1000 : pre.length ≤ 999999 := by have := hlen; omega
    obtain ⟨W1, hW1⟩ : ∃ W1, W.alloc (.cells #[.int .u64 k] 22) = W1 := ⟨_, rfl⟩
    have hm1 : Mod [] W W1 := by rw [← hW1]; exact (Mod.refl [] W).alloc _
    have hrow := Hidden.mk (hR.mod hm1 (by simp))
    have hnw : Blk W1 W.heap.size 22 #[.int .u64 k] := by rw [← hW1]; exact Blk.new _ _ _
    have hnews := Hidden.mk hnw.news
    have o1 := Hidden.mk (ho.mod hm1 (by simp))
    have m1 := Hidden.mk (hmo.mod hm1 (by simp))
    have HI := Hidden.mk (And.intro hI (And.intro hm1 (And.intro hge (And.intro hC (And.intro hnC hmo)))))
    have hW1' := Hidden.mk hW1
    clear hI hm1 hge hR ho hnw hlen hC hnC hmo
    have hne1 : w.heap.size ≠ w.heap.size + 1 := by omega
    rcases (show pre.length + 1 = n ∨ pre.length + 1 < n by omega) with hlast | hlast
    · have hnm : ((pre.length : Int) + 1 == (n : Int)) = true := by simp; omega
      have HL := Hidden.mk hlast
      clear hlast
      gi_wp2_with (refine wpListIn_appC rfl (.tmp 15) (.tmp 17) 23 rfl 22 (.int .u64 0) 1 8 (by kernel_rfl) infoA64 rfl (by decide) _ _ _ rfl hrow.out _ 1 _ [.int .u64 k] rfl rfl hnews.out (by simp [Value.oneCell']) (by omega) (by omega) ?_; intro b5 c5 w5 hr5 hm5 hf5; have o5 := o1.out.mod hm5 (hrow.out.ty o1.out (by decide)); have m5 := m1.out.mod hm5 (hrow.out.ty m1.out (by decide)); have co5 : w5.cell? ⟨w.heap.size + 1, 0, none⟩ = some (.slice b' pre.length cap) := o5.cell 0; have fo5 := o5.frozen 0; have lo5 := o5.lt; have cm5 : w5.cell? ⟨w.heap.size, 0, none⟩ = some (.int .i64 n) := m5.cell 0; have H5 := Hidden.mk (And.intro hr5 (And.intro hm5 (And.intro hf5 (And.intro o5 m5)))); clear hr5 hm5 hf5 o5 m5)
      obtain ⟨a1, a2, a3⟩ := out_next (pre := (pre, [])) (C := ([], C)) k HI.out.1 HI.out.2.1 hrow.out HI.out.2.2.1 H5.out.1 H5.out.2.1 H5.out.2.2.1 H5.out.2.2.2.1 HI.out.2.2.2.1
      exact ⟨_, a1, a2, rfl, a3, by rw [List.length_append]; exact HL.out⟩
    · have hnm : ((pre.length : Int) + 1 == (n : Int)) = false := by simp; omega
      have HL := Hidden.mk hlast
      clear hlast
      gi_wp2_with (refine wpListIn_appC rfl (.tmp 15) (.tmp 17) 23 rfl 22 (.int .u64 0) 1 8 (by kernel_rfl) infoA64 rfl (by decide) _ _ _ rfl hrow.out _ 1 _ [.int .u64 k] rfl rfl hnews.out (by simp [Value.oneCell']) (by omega) (by omega) ?_; intro b5 c5 w5 hr5 hm5 hf5; have o5 := o1.out.mod hm5 (hrow.out.ty o1.out (by decide)); have m5 := m1.out.mod hm5 (hrow.out.ty m1.out (by decide)); have co5 : w5.cell? ⟨w.heap.size + 1, 0, none⟩ = some (.slice b' pre.length cap) := o5.cell 0; have fo5 := o5.frozen 0; have lo5 := o5.lt; have cm5 : w5.cell? ⟨w.heap.size, 0, none⟩ = some (.int .i64 n) := m5.cell 0; have H5 := Hidden.mk (And.intro hr5 (And.intro hm5 (And.intro hf5 (And.intro o5 m5)))); clear hr5 hm5 hf5 o5 m5)
      obtain ⟨a1, a2, a3⟩ := out_next (pre := (pre, [])) (C := ([], C)) k HI.out.1 HI.out.2.1 hrow.out HI.out.2.2.1 H5.out.1 H5.out.2.1 H5.out.2.2.1 H5.out.2.2.2.1 HI.out.2.2.2.1
      have hmq : w.heap.size ∉ C ++ rb (.slice b5 (pre.length + 1) c5) := fun h => by
        rcases List.mem_append.1 h with h | h
        · exact HI.out.2.2.2.2.1 h
        · rcases H5.out.2.2.1 _ h with h1 | h1
          · exact HI.out.2.2.2.2.1 (HI.out.2.2.1 _ h1).2
          · have h2 := HI.out.2.2.2.2.2.lt; have h3 := HI.out.2.1.size; omega
      exact ⟨_, a1, a2, a3, by rw [List.length_append]; exact HL.out, hmq, H5.out.2.2.2.2.far hne1 _⟩
  case done =>
    rintro xs C W2 W rfl hm2 ⟨hI, hlm, -, -⟩ hC hD
    have HT : Hidden (xs.take n = xs) := ⟨List.take_of_length_le (by omega)⟩
    obtain ⟨b', cap, ho, hR, hge⟩ := hI.out
    have co : W.cell? ⟨w.heap.size + 1, 0, none⟩ = some (.slice b' xs.length cap) := ho.cell 0
    have HF := Hidden.mk (And.intro hI (And.intro hR (And.intro hge (And.intro hC hD))))
    clear hI hlm hC hD ho hR hge hm2
    go_wp2_with fail
    (try simp only [Exit.inBlock, Exit.then])
    refine bodyPostM_ret (D := w4.heap.size) rfl HF.out.2.2.2.2 (results_tmp rfl _ _ _) ?_
    have hp : Mod [w4.heap.size] W (W.putObj w4.heap.size (.deferred none)) := (Mod.refl _ _).putObj (.inl (by simp)) _
    rw [HT.out]
    exact ⟨_, rfl, (HF.out.2.1.mod hp (fun k hk hk' => by simp at hk'; subst hk'; exact (HF.out.2.2.2.1 _ (HF.out.2.2.1 _ hk).2).2 rfl)).isl.2, HF.out.1.mod.trans hp (fun q hq => .inr (by simp at hq; subst hq; have := HS4.out.1; omega)), fun k hk => (HF.out.2.2.1 k hk).1⟩
  case stop =>
    rintro c pre C W2 W hpre hm2 ⟨rfl, hI, hlm⟩ hC hD
    have HT : Hidden (l.take n = pre) := ⟨by obtain ⟨t, rfl⟩ := hpre; rw [← hlm]; simp⟩
    obtain ⟨b', cap, ho, hR, hge⟩ := hI.out
    have co : W.cell? ⟨w.heap.size + 1, 0, none⟩ = some (.slice b' pre.length cap) := ho.cell 0
    have HF := Hidden.mk (And.intro hI (And.intro hR (And.intro hge (And.intro hC hD))))
    clear hI hlm hC hD ho hR hge hm2 hpre
    gi_wp2
    go_wp2_with fail
    (try simp only [Exit.inBlock, Exit.then])
    refine bodyPostM_ret (D := w4.heap.size) rfl HF.out.2.2.2.2 (results_tmp rfl _ _ _) ?_
    have hp : Mod [w4.heap.size] W (W.putObj w4.heap.size (.deferred none)) := (Mod.refl _ _).putObj (.inl (by simp)) _
    rw [HT.out]
    exact ⟨_, rfl, (HF.out.2.1.mod hp (fun k hk hk' => by simp at hk'; subst hk'; exact (HF.out.2.2.2.1 _ (HF.out.2.2.1 _ hk).2).2 rfl)).isl.2, HF.out.1.mod.trans hp (fun q hq => .inr (by simp at hq; subst hq; have := HS4.out.1; omega)), fun k hk => (HF.out.2.2.1 k hk).1⟩
set_option maxRecDepth 100000 in
set_option maxHeartbeats 2000000 in
theorem sift_first {w : World} {sv : Value} {l : List Int} {R : List Nat} (h : SeqL w sv l R) (hl : l.length ≤ 1000000) (n : Int) (h2 : n ≤ 9223372036854775807) :
    Calls Try.prog 42 #[sv, .int .i64 n] w (OwnRow w (l.take n.toNat)) := by
  by_cases hn : n < 1
  · have e : l.take n.toNat = [] := by rw [show n.toNat = 0 from by omega]; rfl
    rw [e]
    have hd : decide (n < 1) = true := decide_eq_true hn
    have HM : Hidden (Mod [] w ((w.alloc (.cells #[.int .i64 n] 3)).alloc (.cells #[.slice none 0 0] 23))) := ⟨((Mod.refl [] w).alloc _).alloc _⟩
    have hc : ((w.alloc (.cells #[.int .i64 n] 3)).alloc (.cells #[.slice none 0 0] 23)).cell? ⟨w.heap.size, 0, none⟩ = some (.int .i64 n) := ((Blk.new w 3 #[.int .i64 n]).alloc _).cell 0
    rcases h with ⟨rfl, rfl⟩ | ⟨g, lb, rfl, eg, hit, hR⟩
    · have hnf := nf2
      go_enter Try.func42, Try.ntmps42
      go_wp2_with fail
      go_ret
      exact ⟨_, rfl, ISl.nil_ _ _, HM.out, by simp [rb, Value.ownBlock]⟩
    · have hnf := nf1 g lb
      clear hit eg hR
      go_enter Try.func42, Try.ntmps42
      go_wp2_with fail
      go_ret
      exact ⟨_, rfl, ISl.nil_ _ _, HM.out, by simp [rb, Value.ownBlock]⟩
  · obtain ⟨m, rfl⟩ : ∃ m : Nat, n = m := ⟨n.toNat, by omega⟩
    rcases h with ⟨rfl, rfl⟩ | ⟨g, lb, rfl, eg, hit, hR⟩
    · have hnf := nf2
      have HM : Hidden (Mod [] w ((w.alloc (.cells #[.int .i64 m] 3)).alloc (.cells #[.slice none 0 0] 23))) := ⟨((Mod.refl [] w).alloc _).alloc _⟩
      go_enter Try.func42, Try.ntmps42
      go_wp2_with fail
      go_ret
      exact ⟨_, rfl, by simpa using ISl.nil_ _ _, HM.out, by simp [rb, Value.ownBlock]⟩
    · exact first_some eg hit hR hl m (by omega) (by omega)
end Go.Proofs.Ytfioekkegihkoaa
