/- The document's pairs in memory: Keys; rows of uint64 under way. -/
import Derived.Test.YtnbanbfnabhjjaaRef22c
namespace Go.Proofs.Ytnbanbfnabhjjaa
open Go.RowKit
set_option linter.unusedVariables false
set_option linter.unusedSimpArgs false
theorem u64_info : (Try.prog.info? 22).map (fun i => (i.zero, i.size, i.bytes)) = some (some (.int .u64 0), 1, 8) := by kernel_rfl
def ucells (l : List Int) : List Value := l.map (Value.int .u64)
/-- A row of uint64 under way: all its blocks are new since w, all else is as it was. -/
structure WayU (w w' : World) (v : Value) (n : Nat) (l : List Int) : Prop where
  row : Row w' 22 1 v n (ucells l)
  mod : Mod [] w w'
  ge : ∀ b ∈ rb v, w.heap.size ≤ b
theorem WayU.next {w w' w2 : World} {v v2 : Value} {l m : List Int} {n0 n : Nat} {xs : List Value} (h : WayU w w' v n0 l) (hr : Row w2 22 1 v2 n xs) (hm : Mod (rb v) w' w2) (hf : ∀ k ∈ rb v2, k ∈ rb v ∨ w'.heap.size ≤ k) (hx : xs = ucells m) : WayU w w2 v2 n m := by
  subst hx
  refine ⟨hr, h.mod.trans hm (fun x hx => .inr (h.ge x hx)), fun b hb => ?_⟩
  rcases hf b hb with h1 | h1
  · exact h.ge b h1
  · have := h.mod.size; omega
theorem WayU.alloc {w w' : World} {v : Value} {n : Nat} {l : List Int} (h : WayU w w' v n l) (o : Obj) : WayU w (w'.alloc o) v n l := ⟨h.row.alloc o, h.mod.alloc o, h.ge⟩
theorem WayU.nil_ {w w' : World} (h : Mod [] w w') : WayU w w' (.slice none 0 0) 0 [] := ⟨Row.nil_ _ _ _, h, fun b hb => by simp [rb, Value.ownBlock] at hb⟩
theorem holds_new1 (w : World) (a : Value) (t : Nat) : Holds (w.alloc (.cells #[a] t)) (.slice (some ⟨w.heap.size, 0, none⟩) 1 1) 1 1 [a] := by
  refine .inr ⟨_, _, rfl, rfl, fun j u hj => ?_⟩
  have hb := Blk.new w t #[a]
  have hj2 : j < 1 := (List.getElem?_eq_some_iff.1 hj).1
  obtain rfl : j = 0 := by omega
  rw [show (⟨w.heap.size, 0, none⟩ : Addr).add 0 = ⟨w.heap.size, 0, none⟩ from by unfold Addr.add; simp]
  refine (hb.cell 0).trans ?_
  simpa using hj
/-- Where a pair stands. -/
theorem PRow.at_ {w : World} {a : Option Addr} {n cap : Nat} {l : PL} (h : Row w 92 2 (.slice a n cap) n (pcells l)) {i : Nat} {e : Int × Int} (hi : l[i]? = some e) (hil : i < n) :
    ∃ g, a = some ⟨g, 0, none⟩ ∧ g < w.heap.size ∧ w.cell? ⟨g, i * 2, none⟩ = some (.int .u64 e.1) ∧ w.cell? ⟨g, i * 2 + 1, none⟩ = some (.int .u64 e.2) := by
  obtain ⟨g, cap', e1, _, _, _, hlt, e2, _⟩ := h.at_ (by omega)
  injection e1 with e1
  exact ⟨g, e1, hlt, (e2 (i * 2) (by omega)).trans (pcells_key hi), (e2 (i * 2 + 1) (by omega)).trans (pcells_val hi)⟩
set_option maxRecDepth 100000 in
set_option maxHeartbeats 2000000 in
theorem ref22_keys (l : PL) (v : Value) (w : World) (h : PRow w v l) (hl : l.length ≤ 1000) :
    Calls Try.prog 69 #[v] w fun e w' => ∃ v', e = .returned v' ∧ WayU w w' v' l.length (l.map (·.1)) := by
  have H := Hidden.mk h
  obtain ⟨a, cap, rfl, k1, k2⟩ := h.slice_
  clear h
  go_enter Try.func69, Try.ntmps69
  go_wp2_with fail
  go_loopw [3, 8] (fun o iv wr => ∃ (i : Nat) (b : Option Addr) (c : Nat), i ≤ l.length ∧ iv = .int .i64 i ∧ o = .slice b i c ∧ WayU w wr o i ((l.take i).map (·.1))) (fun _ iv _ => l.length - (intOf iv).toNat)
  case atStart => exact ⟨0, none, 0, by omega, rfl, rfl, WayU.nil_ (Mod.refl [] w)⟩
  case round =>
    obtain ⟨i, b, c, hi, rfl, rfl, hW⟩ := hrel
    by_cases hlt : i < l.length
    · obtain ⟨e, he⟩ : ∃ e, l[i]? = some e := ⟨l[i], by simp [hlt]⟩
      obtain ⟨g, rfl, hg, hc0, hc1⟩ := PRow.at_ (H.out.mod hW.mod (by simp)) he hlt
      obtain ⟨e1, e2⟩ := e
      simp only at hc0 hc1
      have HE := Hidden.mk he
      have hW := Hidden.mk hW
      have hilen : i + 1 ≤ 1000 := by omega
      clear he
      have hw2 := Hidden.mk ((hW.out.alloc (.cells #[.int .u64 e1, .int .u64 e2] 92)).alloc (.cells #[.int .u64 e1] 22))
      have hn1 : Hidden (Holds ((wr.alloc (.cells #[.int .u64 e1, .int .u64 e2] 92)).alloc (.cells #[.int .u64 e1] 22)) (.slice (some ⟨wr.heap.size + 1, 0, none⟩) 1 1) 1 1 [.int .u64 e1]) := ⟨by have := holds_new1 (wr.alloc (.cells #[.int .u64 e1, .int .u64 e2] 92)) (.int .u64 e1) 22; rw [World.size_alloc] at this; exact this⟩
      have tst2 : Hidden (ucells ((l.take i).map (·.1)) ++ [Value.int .u64 e1] = ucells ((l.take (i + 1)).map (·.1))) := ⟨by unfold ucells; rw [List.take_add_one, HE.out]; simp⟩
      clear hW
      go_wp2_with (refine wpList_any rfl (.tmp 12) (.tmp 15) 45 rfl 22 (.int .u64 0) 1 8 (by kernel_rfl) u64_info rfl (by decide) _ _ _ rfl hw2.out.row _ _ _ rfl hn1.out (by simp [Value.oneCell']) (by omega) (by omega) ?_; intro b4 c4 w4 hr4 hm4 hf4; have hW4 := Hidden.mk (hw2.out.next hr4 hm4 hf4 tst2.out); clear hr4 hm4 hf4 hw2)
      go_roundw
      case rel => exact ⟨i + 1, _, _, by omega, by go_num, rfl, hW4.out⟩
      case measure => simp [intOf]; omega
    · obtain rfl : i = l.length := by omega
      have hW := Hidden.mk hW
      go_wp2_with fail
      go_ret
      have hW := hW.out
      rw [List.take_length] at hW
      exact ⟨_, rfl, hW⟩
end Go.Proofs.Ytnbanbfnabhjjaa
