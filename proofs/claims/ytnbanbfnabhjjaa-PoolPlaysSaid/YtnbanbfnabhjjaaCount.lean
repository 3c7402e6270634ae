/- The meter: what each of its calls does. -/
import Derived.Test.YtnbanbfnabhjjaaProg
import Derived.Test.YtnbanbfnabhjjaaLib
namespace Go.Proofs.Ytnbanbfnabhjjaa
open Go.RowKit

structure Mt where
  reads : Int
  calls : Int
  taken : Int
  peak : Int
  starts : Int
def Mt.step (m : Mt) : Mt := { m with taken := wrap64 (m.taken + 1), peak := max m.peak (wrap64 (m.taken + 1)) }
def Mt.read (m : Mt) : Mt := { m with reads := wrap64 (m.reads + 1) }.step
def Mt.call (m : Mt) : Mt := { m with calls := wrap64 (m.calls + 1) }.step
def Mt.start (m : Mt) : Mt := { m with taken := 0, starts := wrap64 (m.starts + 1) }
def Mt.zero : Mt := ⟨0, 0, 0, 0, 0⟩
def mtCells (m : Mt) : Array Value := #[.int .i64 m.reads, .int .i64 m.calls, .int .i64 m.taken, .int .i64 m.peak, .int .i64 m.starts]
/-- The meter at block b. -/
def MeterAt (w : World) (b : Nat) (m : Mt) : Prop := Blk w b 117 (mtCells m)
theorem MeterAt.mod {w w' : World} {b : Nat} {m : Mt} (h : MeterAt w b m) {S : List Nat} (hm : Mod S w w') (hb : b ∉ S) : MeterAt w' b m := Blk.mod h hm hb
theorem MeterAt.lt {w : World} {b : Nat} {m : Mt} (h : MeterAt w b m) : b < w.heap.size := Blk.lt h
theorem MeterAt.c0 {w : World} {b : Nat} {m : Mt} (h : MeterAt w b m) : w.cell? ⟨b, 0, none⟩ = some (.int .i64 m.reads) := Blk.cell h 0
theorem MeterAt.c1 {w : World} {b : Nat} {m : Mt} (h : MeterAt w b m) : w.cell? ⟨b, 1, none⟩ = some (.int .i64 m.calls) := Blk.cell h 1
theorem MeterAt.c2 {w : World} {b : Nat} {m : Mt} (h : MeterAt w b m) : w.cell? ⟨b, 2, none⟩ = some (.int .i64 m.taken) := Blk.cell h 2
theorem MeterAt.c3 {w : World} {b : Nat} {m : Mt} (h : MeterAt w b m) : w.cell? ⟨b, 3, none⟩ = some (.int .i64 m.peak) := Blk.cell h 3
theorem MeterAt.c4 {w : World} {b : Nat} {m : Mt} (h : MeterAt w b m) : w.cell? ⟨b, 4, none⟩ = some (.int .i64 m.starts) := Blk.cell h 4
theorem MeterAt.fr {w : World} {b : Nat} {m : Mt} (h : MeterAt w b m) (i : Nat) : w.frozen? ⟨b, i, none⟩ = false := Blk.frozen h i

set_option maxRecDepth 100000 in
set_option maxHeartbeats 400000 in
theorem meter_step (mb : Nat) (m : Mt) (w : World) (h : MeterAt w mb m) :
    Calls Try.prog 107 #[.pointer (some ⟨mb, 0, none⟩)] w fun e w' => e = .returned (.tuple #[]) ∧ MeterAt w' mb m.step ∧ Mod [mb] w w' := by
  have h2 := h.c2
  have h3 := h.c3
  have f2 := h.fr 2
  have f3 := h.fr 3
  have key : ∀ q : Int, q = max m.peak (wrap64 (m.taken + 1)) → MeterAt (((w.setCell ⟨mb, 2, none⟩ (.int .i64 (wrap64 (m.taken + 1)))).setCell ⟨mb, 3, none⟩ (.int .i64 q)).drew) mb m.step := by
    rintro q rfl
    exact ((Blk.set h 2 _).set 3 _).drew
  have kmod : ∀ q : Int, Mod [mb] w (((w.setCell ⟨mb, 2, none⟩ (.int .i64 (wrap64 (m.taken + 1)))).setCell ⟨mb, 3, none⟩ (.int .i64 q)).drew) := fun q => (((Mod.refl _ w).set (.inl (by simp)) _).set (.inl (by simp)) _).drew
  clear h
  go_enter Try.func107, Try.ntmps107
  go_wp2
  refine wp_tail 12 (by kernel_rfl) (by kernel_rfl) ?_
  simp only [List.take_succ_cons, List.take_zero, List.drop_succ_cons, List.drop_zero]
  repeat still_step
  refine wpStill_nil ?_
  go_wp2
  all_goals
    go_end0
    exact ⟨rfl, key _ (by omega), kmod _⟩

set_option maxHeartbeats 400000 in
theorem meter_read (mb : Nat) (m : Mt) (w : World) (h : MeterAt w mb m) :
    Calls Try.prog 78 #[.pointer (some ⟨mb, 0, none⟩)] w fun e w' => e = .returned (.tuple #[]) ∧ MeterAt w' mb m.read ∧ Mod [mb] w w' := by
  have h0 := h.c0
  have f0 := h.fr 0
  have key : MeterAt (w.setCell ⟨mb, 0, none⟩ (.int .i64 (wrap64 (m.reads + 1)))) mb { m with reads := wrap64 (m.reads + 1) } := Blk.set h 0 _
  have kmod : Mod [mb] w (w.setCell ⟨mb, 0, none⟩ (.int .i64 (wrap64 (m.reads + 1)))) := (Mod.refl _ w).set (.inl (by simp)) _
  have st := meter_step mb _ _ key
  clear h
  go_enter Try.func78, Try.ntmps78
  go_wp2_with (go_at_call 107; refine st.mono ?_; clear st; rintro e w' ⟨rfl, h2, h3⟩)
  go_end0
  exact ⟨rfl, h2, kmod.trans h3 (by simp)⟩

set_option maxHeartbeats 400000 in
theorem meter_call (mb : Nat) (m : Mt) (w : World) (h : MeterAt w mb m) :
    Calls Try.prog 87 #[.pointer (some ⟨mb, 0, none⟩)] w fun e w' => e = .returned (.tuple #[]) ∧ MeterAt w' mb m.call ∧ Mod [mb] w w' := by
  have h0 := h.c1
  have f0 := h.fr 1
  have key : MeterAt (w.setCell ⟨mb, 1, none⟩ (.int .i64 (wrap64 (m.calls + 1)))) mb { m with calls := wrap64 (m.calls + 1) } := Blk.set h 1 _
  have kmod : Mod [mb] w (w.setCell ⟨mb, 1, none⟩ (.int .i64 (wrap64 (m.calls + 1)))) := (Mod.refl _ w).set (.inl (by simp)) _
  have st := meter_step mb _ _ key
  clear h
  go_enter Try.func87, Try.ntmps87
  go_wp2_with (go_at_call 107; refine st.mono ?_; clear st; rintro e w' ⟨rfl, h2, h3⟩)
  go_end0
  exact ⟨rfl, h2, kmod.trans h3 (by simp)⟩

set_option maxHeartbeats 400000 in
theorem meter_new (w : World) :
    Calls Try.prog 30 #[] w fun e w' => e = .returned (.pointer (some ⟨w.heap.size, 0, none⟩)) ∧ w.alloc (.cells (mtCells Mt.zero) 117) = w' := by
  go_enter Try.func30, Try.ntmps30
  go_wp2
  go_ret
  exact ⟨rfl, rfl⟩
theorem MeterAt.new (w : World) : MeterAt (w.alloc (.cells (mtCells Mt.zero) 117)) w.heap.size Mt.zero := Blk.new w _ _

set_option maxHeartbeats 400000 in
theorem meter_see (mb : Nat) (m : Mt) (w : World) (h : MeterAt w mb m) :
    Calls Try.prog 81 #[.pointer (some ⟨mb, 0, none⟩)] w fun e w' => e = .returned (.agg (mtCells m)) ∧ Mod [] w w' := by
  have h0 := h.c0
  have h1 := h.c1
  have h2 := h.c2
  have h3 := h.c3
  have h4 := h.c4
  have hlt := h.lt
  clear h
  go_enter Try.func81, Try.ntmps81
  go_wp2
  refine bodyPost_ret (v := .agg (mtCells m)) (by simp [results, Try.results81, go_sem, mtCells]) rfl ⟨rfl, ?_⟩
  exact ((Mod.refl _ w).alloc _)

set_option maxRecDepth 100000 in
set_option maxHeartbeats 400000 in
theorem meter_Reads (mb : Nat) (m : Mt) (w : World) (h : MeterAt w mb m) :
    Calls Try.prog 33 #[.pointer (some ⟨mb, 0, none⟩)] w fun e w' => e = .returned (.int .i64 m.reads) ∧ Mod [] w w' := by
  have st := meter_see mb _ _ h
  unfold mtCells at st
  have hfl : ∀ W, (Instr.field 117 (.agg #[.int .i64 m.reads, .int .i64 m.calls, .int .i64 m.taken, .int .i64 m.peak, .int .i64 m.starts]) 0).run Try.prog W = .ok (.int .i64 m.reads) W := fun _ => by kernel_rfl
  clear h
  go_enter Try.func33, Try.ntmps33
  go_wp2_with (go_at_call 81; refine st.mono ?_; clear st; rintro e w' ⟨rfl, h3⟩)
  go_ret
  exact ⟨rfl, h3⟩


set_option maxRecDepth 100000 in
set_option maxHeartbeats 400000 in
theorem meter_Calls (mb : Nat) (m : Mt) (w : World) (h : MeterAt w mb m) :
    Calls Try.prog 77 #[.pointer (some ⟨mb, 0, none⟩)] w fun e w' => e = .returned (.int .i64 m.calls) ∧ Mod [] w w' := by
  have st := meter_see mb _ _ h
  unfold mtCells at st
  have hfl : ∀ W, (Instr.field 117 (.agg #[.int .i64 m.reads, .int .i64 m.calls, .int .i64 m.taken, .int .i64 m.peak, .int .i64 m.starts]) 1).run Try.prog W = .ok (.int .i64 m.calls) W := fun _ => by kernel_rfl
  clear h
  go_enter Try.func77, Try.ntmps77
  go_wp2_with (go_at_call 81; refine st.mono ?_; clear st; rintro e w' ⟨rfl, h3⟩)
  go_ret
  exact ⟨rfl, h3⟩


set_option maxRecDepth 100000 in
set_option maxHeartbeats 400000 in
theorem meter_Taken (mb : Nat) (m : Mt) (w : World) (h : MeterAt w mb m) :
    Calls Try.prog 34 #[.pointer (some ⟨mb, 0, none⟩)] w fun e w' => e = .returned (.int .i64 m.taken) ∧ Mod [] w w' := by
  have st := meter_see mb _ _ h
  unfold mtCells at st
  have hfl : ∀ W, (Instr.field 117 (.agg #[.int .i64 m.reads, .int .i64 m.calls, .int .i64 m.taken, .int .i64 m.peak, .int .i64 m.starts]) 2).run Try.prog W = .ok (.int .i64 m.taken) W := fun _ => by kernel_rfl
  clear h
  go_enter Try.func34, Try.ntmps34
  go_wp2_with (go_at_call 81; refine st.mono ?_; clear st; rintro e w' ⟨rfl, h3⟩)
  go_ret
  exact ⟨rfl, h3⟩



end Go.Proofs.Ytnbanbfnabhjjaa
