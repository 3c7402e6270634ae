/- The pool of uint64 with its meter, behind one word: what a law sees. -/
import Derived.Test.YtnbanbfnabhjjaaPoolU2
namespace Go.Proofs.Ytnbanbfnabhjjaa
open Go.RowKit

/-- A pool at pb that the call itself has made; what lay there in w0 is as it was. -/
def PM (w0 w : World) (pb : Nat) (s : PS Int) (m : Mt) : Prop := ∃ mb F, PoolAt TU w pb mb F s ∧ MeterAt w mb m ∧ mb ∉ F ∧ w0.heap.size ≤ mb ∧ (∀ k ∈ F, w0.heap.size ≤ k) ∧ Below w0.heap.size w0 w
theorem PM.below {w0 w : World} {pb : Nat} {s : PS Int} {m : Mt} (h : PM w0 w pb s m) : Below w0.heap.size w0 w := by obtain ⟨mb, F, h1, h2, h3, h4, h5, h6⟩ := h; exact h6
theorem PM.wf {w0 w : World} {pb : Nat} {s : PS Int} {m : Mt} (h : PM w0 w pb s m) : s.wf := by obtain ⟨mb, F, h1, h2, h3, h4, h5, h6⟩ := h; exact h1.wf
theorem PM.mod0 {w0 w w' : World} {pb : Nat} {s : PS Int} {m : Mt} (h : PM w0 w pb s m) (hm : Mod [] w w') : PM w0 w' pb s m := by
  obtain ⟨mb, F, h1, h2, h3, h4, h5, h6⟩ := h
  exact ⟨mb, F, h1.mod hm (by simp), h2.mod hm (by simp), h3, h4, h5, h6.trans (hm.below h6.size (by simp))⟩
theorem Mod.belowOf {S : List Nat} {w0 w w' : World} (hm : Mod S w w') (hb : Below w0.heap.size w0 w) (hS : ∀ k ∈ S, w0.heap.size ≤ k) : Below w0.heap.size w0 w' := hb.trans (hm.below hb.size hS)
theorem PM.turn {w0 w w' : World} {pb mb : Nat} {cv fv cv' fv' : Value} {s s' : PS Int} {m : Mt} (hm : MeterAt w mb m) (hn : mb ∉ pb :: (rb cv ++ rb fv)) (hB : w0.heap.size ≤ mb)
    (hF : ∀ k ∈ pb :: (rb cv ++ rb fv), w0.heap.size ≤ k) (hb : Below w0.heap.size w0 w) (h : PoolIn TU w' pb mb cv' fv' s') (hmod : Mod (pb :: (rb cv ++ rb fv)) w w')
    (hfr : ∀ k ∈ rb cv' ++ rb fv', k ∈ rb cv ++ rb fv ∨ w.heap.size ≤ k) : PM w0 w' pb s' m := by
  have hlt := hm.lt
  refine ⟨mb, _, ⟨cv', fv', rfl, h⟩, hm.mod hmod hn, ?_, hB, ?_, hmod.belowOf hb hF⟩
  · intro hk
    rcases List.mem_cons.1 hk with rfl | hk
    · exact hn (by simp)
    · rcases hfr mb hk with hk | hk
      · exact hn (by simp [List.mem_append.1 hk])
      · omega
  · intro k hk
    rcases List.mem_cons.1 hk with rfl | hk
    · exact hF _ (by simp)
    · rcases hfr k hk with hk | hk
      · exact hF k (by simp [List.mem_append.1 hk])
      · have := hb.size; omega

theorem pm_new (limit : Nat) (w0 w : World) (hb : Below w0.heap.size w0 w) (hl : limit ≤ 1048576) :
    Calls Try.prog 17 #[.pointer none, .int .i64 limit] w fun e w' => ∃ pb, e = .returned (.tuple #[.pointer (some ⟨pb, 0, none⟩), .int .i64 0]) ∧ PM w0 w' pb (PS.empty limit) Mt.zero := by
  refine (poolU_new_nil limit w hl).mono ?_
  rintro e w' ⟨rfl, h1, h2, h3⟩
  refine ⟨_, rfl, w.heap.size, _, ⟨_, _, rfl, h1⟩, h2, by simp [rb, Value.ownBlock], hb.size, ?_, hb.trans (h3.below hb.size (by simp))⟩
  have := hb.size
  simp [rb, Value.ownBlock]; omega
theorem pm_newm (limit : Nat) (m : Mt) (mb : Nat) (w0 w : World) (hb : Below w0.heap.size w0 w) (hm : MeterAt w mb m) (hB : w0.heap.size ≤ mb) (hl : limit ≤ 1048576) :
    Calls Try.prog 17 #[.pointer (some ⟨mb, 0, none⟩), .int .i64 limit] w fun e w' => ∃ pb, e = .returned (.tuple #[.pointer (some ⟨pb, 0, none⟩), .int .i64 0]) ∧ PM w0 w' pb (PS.empty limit) m := by
  refine (poolU_new mb limit w hl).mono ?_
  rintro e w' ⟨rfl, h1, h3⟩
  have hlt := hm.lt
  refine ⟨_, rfl, mb, _, ⟨_, _, rfl, h1⟩, hm.mod h3 (by simp), by simp [rb, Value.ownBlock]; omega, hB, ?_, hb.trans (h3.below hb.size (by simp))⟩
  have := hb.size
  simp [rb, Value.ownBlock]; omega
theorem pm_alloc {w0 w : World} {pb : Nat} {s s' : PS Int} {m : Mt} {i : Nat} {ok : Bool} (v : Int) (h : PM w0 w pb s m) (hs : s.alloc v = (s', i, ok)) :
    Calls Try.prog 18 #[.pointer (some ⟨pb, 0, none⟩), .int .u64 v] w fun e w' => e = .returned (.tuple #[.int .i64 i, .bool ok]) ∧ PM w0 w' pb s' m := by
  obtain ⟨mb, F, ⟨cv, fv, rfl, h1⟩, h2, h3, h4, h5, h6⟩ := h
  unfold PS.alloc at hs
  split at hs
  · rename_i hl
    injection hs with e1 hs; injection hs with e2 e3; subst e1 e2 e3
    unfold PS.nextAt
    cases hg : s.free.getLast? with
    | none =>
      have hnil : s.free = [] := by simpa using hg
      refine (poolU_alloc_new pb mb cv fv s v w h1 hl hnil).mono ?_
      rintro e w' ⟨rfl, cv', fv', k1, k2, k3⟩
      exact ⟨rfl, PM.turn (s := s) h2 h3 h4 h5 h6 k1 k2 k3⟩
    | some i =>
      refine (poolU_alloc_re pb mb cv fv s v i w h1 hl hg).mono ?_
      rintro e w' ⟨rfl, cv', fv', k1, k2, k3⟩
      exact ⟨rfl, PM.turn (s := s) h2 h3 h4 h5 h6 k1 k2 k3⟩
  · rename_i hl
    injection hs with e1 hs; injection hs with e2 e3; subst e1 e2 e3
    refine (poolU_alloc_full pb mb cv fv s v w h1 hl).mono ?_
    rintro e w' ⟨rfl, k1⟩
    exact ⟨rfl, PM.mod0 ⟨mb, _, ⟨cv, fv, rfl, h1⟩, h2, h3, h4, h5, h6⟩ k1⟩
theorem pm_free {w0 w : World} {pb : Nat} {s s' : PS Int} {m : Mt} {ok : Bool} (i : Int) (h : PM w0 w pb s m) (hs : s.give i = (s', ok)) :
    Calls Try.prog 22 #[.pointer (some ⟨pb, 0, none⟩), .int .i64 i] w fun e w' => e = .returned (.bool ok) ∧ PM w0 w' pb s' m := by
  have h0 := h
  obtain ⟨mb, F, ⟨cv, fv, rfl, h1⟩, h2, h3, h4, h5, h6⟩ := h
  unfold PS.give at hs
  cases hg : s.get i with
  | none =>
    rw [hg] at hs; simp at hs; obtain ⟨rfl, rfl⟩ := hs
    refine (poolU_free_no pb mb cv fv s i w h1 hg).mono ?_
    rintro e w' ⟨rfl, rfl⟩
    exact ⟨rfl, h0⟩
  | some u =>
    rw [hg] at hs; simp at hs; obtain ⟨rfl, rfl⟩ := hs
    obtain ⟨hi, _⟩ := PS.get_some hg
    obtain ⟨j, rfl⟩ : ∃ j : Nat, i = j := ⟨i.toNat, by omega⟩
    simp only [Int.toNat_natCast]
    refine (poolU_free_yes pb mb cv fv s j u w h1 hg).mono ?_
    rintro e w' ⟨rfl, cv', fv', k1, k2, k3⟩
    exact ⟨rfl, PM.turn (s := s) h2 h3 h4 h5 h6 k1 k2 k3⟩
theorem pm_put {w0 w : World} {pb : Nat} {s s' : PS Int} {m : Mt} {ok : Bool} (i v : Int) (h : PM w0 w pb s m) (hs : s.store i v = (s', ok)) :
    Calls Try.prog 27 #[.pointer (some ⟨pb, 0, none⟩), .int .i64 i, .int .u64 v] w fun e w' => e = .returned (.bool ok) ∧ PM w0 w' pb s' m := by
  have h0 := h
  obtain ⟨mb, F, ⟨cv, fv, rfl, h1⟩, h2, h3, h4, h5, h6⟩ := h
  unfold PS.store at hs
  cases hg : s.get i with
  | none =>
    rw [hg] at hs; simp at hs; obtain ⟨rfl, rfl⟩ := hs
    refine (poolU_put_no pb mb cv fv s i v w h1 hg).mono ?_
    rintro e w' ⟨rfl, rfl⟩
    exact ⟨rfl, h0⟩
  | some u =>
    rw [hg] at hs; simp at hs; obtain ⟨rfl, rfl⟩ := hs
    refine (poolU_put_yes pb mb cv fv s i v u w h1 hg).mono ?_
    rintro e w' ⟨rfl, k1, k2⟩
    exact ⟨rfl, PM.turn (s := s) h2 h3 h4 h5 h6 k1 k2 (fun k hk => .inl hk)⟩
theorem pm_at {w0 w : World} {pb : Nat} {s : PS Int} {m : Mt} (i : Int) (h : PM w0 w pb s m) :
    Calls Try.prog 23 #[.pointer (some ⟨pb, 0, none⟩), .int .i64 i] w fun e w' => e = .returned (.tuple #[.int .u64 ((s.get i).getD 0), .bool (s.get i).isSome]) ∧
      PM w0 w' pb s (if (s.get i).isSome then m.read else m) := by
  obtain ⟨mb, F, ⟨cv, fv, rfl, h1⟩, h2, h3, h4, h5, h6⟩ := h
  refine (poolU_at pb mb cv fv s m i w h1 h2).mono ?_
  rintro e w' ⟨rfl, k1, k2⟩
  exact ⟨rfl, mb, _, ⟨cv, fv, rfl, h1.mod k2 (by simpa using h3)⟩, k1, h3, h4, h5, k2.belowOf h6 (by simpa using h4)⟩
theorem pm_peek {w0 w : World} {pb : Nat} {s : PS Int} {m : Mt} (i : Int) (h : PM w0 w pb s m) :
    Calls Try.prog 24 #[.pointer (some ⟨pb, 0, none⟩), .int .i64 i] w fun e w' => e = .returned (.tuple #[.int .u64 ((s.get i).getD 0), .bool (s.get i).isSome]) ∧ w = w' := by
  obtain ⟨mb, F, ⟨cv, fv, rfl, h1⟩, _⟩ := h
  exact poolU_peek pb mb cv fv s i w h1
theorem pm_live {w0 w : World} {pb : Nat} {s : PS Int} {m : Mt} (i : Int) (h : PM w0 w pb s m) :
    Calls Try.prog 28 #[.pointer (some ⟨pb, 0, none⟩), .int .i64 i] w fun e w' => e = .returned (.bool (s.get i).isSome) ∧ w = w' := by
  obtain ⟨mb, F, ⟨cv, fv, rfl, h1⟩, _⟩ := h
  exact poolU_live pb mb cv fv s i w h1
theorem pm_len {w0 w : World} {pb : Nat} {s : PS Int} {m : Mt} (h : PM w0 w pb s m) :
    Calls Try.prog 19 #[.pointer (some ⟨pb, 0, none⟩)] w fun e w' => e = .returned (.int .i64 s.live) ∧ w = w' := by
  obtain ⟨mb, F, ⟨cv, fv, rfl, h1⟩, _⟩ := h
  exact poolU_len pb mb cv fv s w h1
theorem pm_limit {w0 w : World} {pb : Nat} {s : PS Int} {m : Mt} (h : PM w0 w pb s m) :
    Calls Try.prog 29 #[.pointer (some ⟨pb, 0, none⟩)] w fun e w' => e = .returned (.int .i64 s.limit) ∧ w = w' := by
  obtain ⟨mb, F, ⟨cv, fv, rfl, h1⟩, _⟩ := h
  exact poolU_limit pb mb cv fv s w h1
theorem pm_room {w0 w : World} {pb : Nat} {s : PS Int} {m : Mt} (n : Int) (h : PM w0 w pb s m) :
    Calls Try.prog 20 #[.pointer (some ⟨pb, 0, none⟩), .int .i64 n] w fun e w' => e = .returned (.bool (decide (n ≤ (s.limit : Int) - s.live))) ∧ PM w0 w' pb s m := by
  have h0 := h
  obtain ⟨mb, F, ⟨cv, fv, rfl, h1⟩, _⟩ := h
  refine (poolU_room pb mb cv fv s n w h1).mono ?_
  rintro e w' ⟨rfl, k1⟩
  exact ⟨rfl, h0.mod0 k1⟩
end Go.Proofs.Ytnbanbfnabhjjaa
