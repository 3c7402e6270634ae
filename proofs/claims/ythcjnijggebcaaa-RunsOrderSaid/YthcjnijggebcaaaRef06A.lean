/- The document's sets (stepstoneref06): New, Of, List. -/
import Derived.Test.YthcjnijggebcaaaSet06
import Derived.Test.YthcjnijggebcaaaProg
import Derived.OwnWalk
namespace Go.Proofs.Ythcjnijggebcaaa
open Go.RowKit
set_option linter.unusedVariables false
set_option linter.unusedSimpArgs false
theorem bool06 : (Try.prog.info? 4).map (fun i => (i.zero, i.size, i.bytes)) = some (some (.bool false), 1, 1) := by kernel_rfl
theorem u1606 : (Try.prog.info? 24).map (fun i => (i.zero, i.size, i.bytes)) = some (some (.int .u16 0), 1, 2) := by kernel_rfl
/-- A new set. -/
def SetOnly (w : World) (f : Nat → Bool) (e : Ending) (w' : World) : Prop := ∃ v, e = .returned v ∧ BS 4 w' v f ∧ Mod [] w w' ∧ ∀ b ∈ rb v, w.heap.size ≤ b
set_option maxHeartbeats 400000 in
theorem new06 (w : World) : Calls Try.prog 50 #[] w (SetOnly w (fun _ => false)) := by
  obtain ⟨i, hi, hz, hsize, hby⟩ := info_parts bool06
  have HB := Hidden.mk hby
  clear hby
  go_enter Try.func50, Try.ntmps50
  go_wp2_with (refine wpList_make_full _ rfl (.const (.int .i64 65536)) (.const (.int .i64 65536)) 30 rfl 0 4 i (.bool false) 1 (by kernel_rfl) hi hz hsize .i64 .i64 65536 65536 65536 rfl rfl rfl rfl (by rw [HB.out]; decide) (by unfold maxLen; omega) (Nat.zero_le _) ?_; intro w1 hr hg; have HR := Hidden.mk (And.intro hr hg); clear hr hg)
  go_ret
  refine ⟨_, rfl, BS.of_row HR.out.1 (fun j hj => ?_), Mod.of_grown HR.out.2, fun b hb => by simp [rb, Value.ownBlock] at hb; omega⟩
  rw [show (Value.bool false).cells = #[.bool false] from rfl, toList_madeCells_one, List.getElem?_replicate, if_pos (by unfold Most at hj; omega)]
set_option maxHeartbeats 1000000 in
theorem of06 {w : World} {v : Value} {l : List Int} (h : ISl .u16 w v l) (hl : l.length ≤ 1000000) (hb : ∀ x ∈ l, 0 ≤ x ∧ x < 65536) :
    Calls Try.prog 19 #[v] w (SetOnly w (fun i => decide ((i : Int) ∈ l))) := by
  obtain ⟨a, cap, rfl, k1, k2⟩ := h.slice_
  have H := Hidden.mk h
  have HB := Hidden.mk hb
  clear h hb
  go_enter Try.func19, Try.ntmps19
  go_wp2_with fail
  refine (new06 _).mono ?_
  rintro e w1 ⟨v1, rfl, hs, hm, hn⟩
  obtain ⟨sb, rfl, hrb, hlt, hcw, hfw⟩ := hs.at_
  have HS := Hidden.mk (And.intro hs (And.intro hm (hn sb (by rw [hrb]; simp))))
  clear hs hm hn hcw hfw hrb hlt
  go_wp2_with fail
  go_loopw [5, 9] (fun _ vi wr => ∃ i : Nat, i ≤ l.length ∧ vi = .int .i64 i ∧ BS 4 wr (.slice (some ⟨sb, 0, none⟩) 65536 65536) (fun j => decide ((j : Int) ∈ l.take i)) ∧ Mod [] w wr) (fun _ vi _ => l.length - (intOf vi).toNat)
  case atStart => exact ⟨0, by omega, rfl, by simpa using HS.out.1, HS.out.2.1⟩
  case round =>
    obtain ⟨i, hi, rfl, hs, hm⟩ := hrel
    by_cases hin : i < l.length
    · obtain ⟨b, off, x, rfl, hbl, hx, hc⟩ := (H.out.news hm).get hin
      obtain ⟨hx0, hx1⟩ := HB.out x (List.mem_of_getElem? hx)
      obtain ⟨n, rfl⟩ := Int.eq_ofNat_of_zero_le hx0
      obtain ⟨_, he, _, hlt, hcw, hfw⟩ := hs.at_
      injection he with he
      injection he with he
      injection he with he
      subst he
      have hcs := hcw n (by omega)
      have hfs := hfw n
      rw [Nat.zero_add] at hcs
      generalize decide ((n : Int) ∈ l.take i) = old at hcs
      have HM := Hidden.mk (hm.set (p := ⟨sb, n, none⟩) (.inr HS.out.2.2) (.bool true))
      have HS2 := Hidden.mk ((hs.set n true).congr (g := fun j => decide ((j : Int) ∈ l.take (i + 1))) (fun j hj => by
        rw [List.take_add_one, hx]
        by_cases hjn : j = n
        · subst hjn; simp
        · have : ¬ ((j : Int) = (n : Int)) := by omega
          simp [hjn, this]))
      have hn1 : (n : Int) < 65536 := hx1
      clear hs hm hx hcw hfw hx0 hx1
      go_wp2_with fail
      go_roundw
      case rel => exact ⟨i + 1, by omega, by go_num, HS2.out, HM.out⟩
      case measure => simp [intOf]; omega
    · have e : i = l.length := by omega
      subst e
      have HS2 := Hidden.mk (And.intro hs hm)
      clear hs hm
      go_wp2_with fail
      go_ret
      exact ⟨_, rfl, by have := HS2.out.1; rwa [List.take_length] at this, HS2.out.2, fun b hb => by simp [rb, Value.ownBlock] at hb; subst hb; exact HS.out.2.2⟩
set_option maxHeartbeats 1000000 in
theorem list06 {w : World} {v : Value} {f : Nat → Bool} (h : BS 4 w v f) :
    Calls Try.prog 27 #[v] w (RowOnly .u16 24 w (lst f)) := by
  obtain ⟨sb, rfl, _, hlt, hcw0, _⟩ := h.at_
  have hcw : Hidden (∀ W, Mod [] w W → ∀ i, i < 65536 → W.cell? ⟨sb, 0 + i, none⟩ = some (.bool (f i))) := ⟨fun W hW i hi => (Below.cell (p := ⟨sb, 0 + i, none⟩) hW.below' hlt).trans (hcw0 i hi)⟩
  clear h hcw0 hlt
  go_enter Try.func27, Try.ntmps27
  go_wp2_with fail
  go_loopw [3, 4, 5, 8] (fun vo _ _ vi wr => ∃ i : Nat, i ≤ 65536 ∧ vi = .int .i64 i ∧ WayI .u16 24 w wr vo (lstN f i).length (lstN f i)) (fun _ _ _ vi _ => 65536 - (intOf vi).toNat)
  case atStart => exact ⟨0, by omega, rfl, WayI.nil_ (Mod.refl [] w)⟩
  case round =>
    obtain ⟨i, hi, rfl, hW⟩ := hrel
    by_cases hin : i < 65536
    · have hc := hcw.out _ hW.mod i hin
      rw [Nat.zero_add] at hc
      have hinz : (i : Int) < 65536 := by omega
      cases hfi : f i with
      | false =>
        have e := Hidden.mk (lstN_no hfi)
        have HW := Hidden.mk hW
        rw [hfi] at hc
        clear hW hfi
        go_wp2_with fail
        go_roundw
        case rel => exact ⟨i + 1, by omega, by go_num, by rw [e.out]; exact HW.out⟩
        case measure => simp [intOf]; omega
      | true =>
        have e := Hidden.mk (lstN_yes hfi)
        have hlen : (lstN f i).length ≤ 65536 := by rw [lstN_length]; have := cntN_le (f := f) i; omega
        rw [hfi] at hc
        have hd := Hidden.mk (icells_snoc .u16 (lstN f i) i)
        have hw2 := Hidden.mk (hW.alloc (.cells #[.int .u16 i] 24))
        have hn1 := Hidden.mk (holds_one wr (.int .u16 i) 24 rfl)
        have hwr : IntKind.u16.wrap (i : Int) = i := by rw [IntKind.wrap_u16]; omega
        have hl2 := Hidden.mk (show (lstN f (i + 1)).length = (lstN f i).length + 1 from by rw [e.out]; simp)
        clear hW hfi
        go_wp2_with (refine wpList_any rfl (.tmp 14) (.tmp 17) 22 rfl 24 (.int .u16 0) 1 2 (by kernel_rfl) u1606 rfl (by decide) _ _ _ rfl hw2.out.row _ _ _ rfl hn1.out (by simp [Value.oneCell']) (by omega) (by omega) ?_; intro b4 c4 w4 hr4 hm4 hf4; have hW4 := Hidden.mk (hw2.out.next hr4 hm4 hf4 hd.out); clear hr4 hm4 hf4 hw2)
        go_roundw
        case rel => exact ⟨i + 1, by omega, by go_num, by rw [hl2.out, e.out]; exact hW4.out⟩
        case measure => simp [intOf]; omega
    · have e : i = 65536 := by omega
      subst e
      have HW := Hidden.mk hW
      clear hW
      go_wp2_with fail
      go_ret
      exact ⟨_, rfl, HW.out⟩
end Go.Proofs.Ythcjnijggebcaaa
