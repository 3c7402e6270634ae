/- Texts joined: It, Keep. -/
import Derived.Test.YtfioekkegihkoaaGLib
import Derived.Test.YtfioekkegihkoaaGSl
import Derived.RangeFuncNested
import Derived.RangeFuncLeaves
import Derived.RangeFuncBound
import Derived.RangeFuncCalls
import Derived.Shelf.Abstract
import Derived.Shelf.RegionOpen
import Derived.OwnWalkIn
import Derived.TacticsInMore
import Derived.LoopNIn
import Derived.LoopIn
set_option linter.unusedVariables false
set_option linter.unusedSimpArgs false
/- Iterators that keep what is their own apart from what is the caller's: a contract, and the law of a range over one. -/
namespace Go.Proofs.Ytfioekkegihkoaa
open Go.RowKit
set_option linter.unusedVariables false
set_option linter.unusedSimpArgs false
theorem Mod.putObj {S : List Nat} {a w : World} (h : Mod S a w) {l : Nat} (hl : l ∈ S ∨ a.heap.size ≤ l) (o : Obj) : Mod S a (w.putObj l o) :=
  ⟨h.os, h.tape, h.output, by rw [World.putObj_size]; exact h.size, fun k hk hkS => (World.putObj_heap_other (fun e => by subst e; rcases hl with h1 | h1; exact hkS h1; omega)).trans (h.block k hk hkS)⟩
/-- What leans on the blocks C alone, and on what lay before B but for M. -/
def AbC {β : Type} (B : Nat) (M : List Nat) (J : β → List Nat → World → Prop) : Prop :=
  ∀ s C W W' S, J s C W → Mod S W W' → (∀ q ∈ S, (B ≤ q ∨ q ∈ M) ∧ q ∉ C) → J s C W'
/-- Blocks C', of C or new. -/
def NewC (C C' : List Nat) (W W' : World) : Prop := ∀ q ∈ C', (q ∈ C ∨ W.heap.size ≤ q) ∧ q < W'.heap.size
theorem NewC.trans {C C1 C2 : List Nat} {A B D : World} (h : NewC C C1 A B) (k : NewC C1 C2 B D) (hs : A.heap.size ≤ B.heap.size) : NewC C C2 A D := fun q hq => by
  obtain ⟨h1, h2⟩ := k q hq
  refine ⟨?_, h2⟩
  rcases h1 with h1 | h1
  · exact (h q h1).1
  · exact .inr (by omega)
theorem NewC.refl {C : List Nat} {W : World} (h : ∀ q ∈ C, q < W.heap.size) : NewC C C W W := fun q hq => ⟨.inl hq, h q hq⟩
theorem NewC.later {C C1 : List Nat} {A B D : World} (h : NewC C C1 A B) (hs : B.heap.size ≤ D.heap.size) : NewC C C1 A D := fun q hq => ⟨(h q hq).1, by have := (h q hq).2; omega⟩
theorem Mod.thenC {C C1 : List Nat} {A B D : World} (h : Mod C A B) (hn : NewC C C1 A B) (k : Mod C1 B D) : Mod C A D := h.trans k (fun q hq => (hn q hq).1)
def YieldsC {α : Type} (P : Program) (l : Nat) (encs : α → Array Value) (N : Nat) (J Jx : List α → List Nat → World → Prop) : Prop :=
  ∀ pre x C W, J pre C W → pre.length < N → (∀ q ∈ C, q < W.heap.size) → YieldAt Fence.wide 3 P l (encs x) W fun e W' => ∃ C', Mod C W W' ∧ NewC C C' W W' ∧
    ((e = .returned (.bool true) ∧ J (pre ++ [x]) C' W') ∨ (e = .returned (.bool false) ∧ Jx (pre ++ [x]) C' W'))
/-- AN ITERATOR: R are the blocks that it reads, M those of them that it may turn. -/
def ItC {α : Type} (P : Program) (g : Nat) (lb : Array Value) (encs : α → Array Value) (S Sp : List α → World → Prop) (N : Nat) (R M : List Nat) (w : World) : Prop :=
  ∀ (l : Nat) (J Jx : List α → List Nat → World → Prop) (C T : List Nat) (W : World), Mod T w W → (∀ q ∈ T, q ∉ R) → (∀ q ∈ C, q < W.heap.size ∧ q ∉ R) → AbC W.heap.size M J → AbC W.heap.size M Jx → YieldsC P l encs N J Jx → J [] C W →
    Calls P g (#[.func (.yield l) #[] #[]] ++ lb) W fun e W' => (∃ v, e = .returned v) ∧ ∃ C', (∀ q ∈ C', q < W'.heap.size) ∧ ((∃ xs, S xs W' ∧ J xs C' W') ∨ (∃ pre, Sp pre W' ∧ Jx pre C' W'))
theorem ItC.later {α : Type} {P : Program} {g : Nat} {lb : Array Value} {encs : α → Array Value} {S Sp : List α → World → Prop} {N : Nat} {R M T : List Nat} {w w' : World} (h : ItC P g lb encs S Sp N R M w) (hm : Mod T w w') (hT : ∀ q ∈ T, q ∉ R) (hR : ∀ q ∈ R, q < w.heap.size) : ItC P g lb encs S Sp N R M w' := by
  intro l J Jx C T' W hW hT' hC hJ hJx hY h0
  refine h l J Jx C (T ++ T'.filter (· < w.heap.size)) W ?_ ?_ hC hJ hJx hY h0
  · refine (hm.mono (T := T ++ T'.filter (· < w.heap.size)) (fun q hq => .inl (by simp [hq]))).trans hW (fun q hq => ?_)
    rcases Nat.lt_or_ge q w.heap.size with h1 | h1
    · exact .inl (by simp [hq, h1])
    · exact .inr h1
  · intro q hq
    rcases List.mem_append.1 hq with h1 | h1
    · exact hT q h1
    · exact hT' q (List.mem_filter.1 h1).1
theorem RoundIn.any {P : Program} {n m l : Nat} {f : FuncId} {tmps : Array Value} {assign body : Code} {W : World} {R : Ending → World → Prop} (h : RoundIn Fence.wide n P l f tmps assign body W R) : RoundIn Fence.wide m P l f tmps assign body W R :=
  ⟨trivial, fun c cs _ => h.2 c cs (room_wide _)⟩
theorem YieldAt.any {P : Program} {n m l : Nat} {args : Array Value} {W : World} {R : Ending → World → Prop} (h : YieldAt Fence.wide n P l args W R) : YieldAt Fence.wide m P l args W R := by
  obtain ⟨fn, tmps, assign, body, h1, h2⟩ := h
  exact ⟨fn, tmps, assign, body, h1, RoundIn.any h2⟩
def postC {α : Type} (I : List α → List Nat → World → Prop) (Ix : Code → List α → List Nat → World → Prop) (xs : List α) (C : List Nat) (W : World) : Exit → Act → World → Prop
  | .normal, _, W' => ∃ C', Mod C W W' ∧ NewC C C' W W' ∧ I xs C' W'
  | .ret, _, W' => ∃ C', Mod C W W' ∧ NewC C C' W W' ∧ Ix .ret xs C' W'
  | .exit id, _, W' => ∃ C', Mod C W W' ∧ NewC C C' W W' ∧ Ix (.exit id) xs C' W'
  | .goto t, _, W' => ∃ C', Mod C W W' ∧ NewC C C' W W' ∧ Ix (.goto t) xs C' W'
  | .panic _, _, _ => False
  | .outgrown, _, _ => False
set_option maxHeartbeats 4000000 in
/-- THE LAW OF A RANGE OVER AN ITERATOR. -/
theorem wpIn_rangeC {α : Type} {n : Nat} {P : Program} {g : Operand} {ps : Array Tmp} {assign body : Code} {Q : Exit → Act → World → Prop} {a : Act} {w : World}
    {gf : Nat} {lb : Array Value} (hg : a.eval g = .func (.func gf) #[] lb) (eg : ∀ args w, (callFunc gf args).run P w = .ok (.enter gf args) w)
    {encs : α → Array Value} {S Sp : List α → World → Prop} {N : Nat} {R M : List Nat} (hseq : ItC P gf lb encs S Sp N R M w) (hR : ∀ q ∈ R, q < w.heap.size) (hM : ∀ q ∈ M, q ∈ R) (hps : ∀ x, (encs x).size = ps.size)
    (I : List α → List Nat → World → Prop) (Ix : Code → List α → List Nat → World → Prop) (hI : AbC w.heap.size M I) (hIx : ∀ c, AbC w.heap.size M (Ix c)) (C0 : List Nat) (hC0 : ∀ q ∈ C0, q < w.heap.size ∧ q ∉ R) (h0 : I [] C0 w)
    (Ax : α → Act → List α → List Nat → World → Prop) (hAx : ∀ x a', AbC w.heap.size M (Ax x a'))
    (hassign : ∀ (l : Nat) (pre : List α) (x : α) (C : List Nat) (W : World) (K : Act → World → Prop), I pre C W → (∀ q ∈ C, q < W.heap.size) → (∀ a' C' W', Mod [] W W' → NewC C C' W W' → Ax x a' pre C' W' → K a' W') →
      assign.wpIn (Fence.wide.inRound l) n P (Exit.then K (fun _ _ _ => False)) { tmps := (ps.zip (encs x)).foldl (fun t (p, v) => t.setIfInBounds p v) a.tmps, defers := [] } W)
    (hbody : ∀ (l : Nat) (pre : List α) (x : α) (a' : Act) (C : List Nat) (W : World), Ax x a' pre C W → pre.length < N → (∀ q ∈ C, q < W.heap.size) → body.wpIn (Fence.wide.inRound l) n P (postC I Ix (pre ++ [x]) C W) a' W)
    (hdone : ∀ (xs : List α) (C : List Nat) (W2 W : World), S xs W2 → Mod [w.heap.size + 1] W2 W → I xs C W → (∀ q ∈ C, q < W.heap.size ∧ q ≠ w.heap.size) → W.heap[w.heap.size]? = some (.deferred (some [])) → Q .normal { a with defers := { target := .collected w.heap.size, args := #[] } :: a.defers } W)
    (hstop : ∀ (c : Code) (pre : List α) (C : List Nat) (W2 W : World), Sp pre W2 → Mod [w.heap.size + 1] W2 W → Ix c pre C W → (∀ q ∈ C, q < W.heap.size ∧ q ≠ w.heap.size) → W.heap[w.heap.size]? = some (.deferred (some [])) → c.wpIn Fence.wide n P Q { a with defers := { target := .collected w.heap.size, args := #[] } :: a.defers } W) :
    (Code.rangeFunc g ps assign body).wpIn Fence.wide n P Q a w := by
  refine wpIn_rangeFunc ?_
  intro fn hfn
  obtain ⟨rec, hrec⟩ : ∃ rec : LoopState → Option Code → Loop, rec = fun st pe => { state := st, pending := pe, fn, tmps := a.tmps, params := ps, assign, body, defers := w.heap.size } := ⟨_, rfl⟩
  obtain ⟨W1, hW1⟩ : ∃ W1, (w.alloc (.deferred (some []))).alloc (.loop (rec .ready none)) = W1 := ⟨_, rfl⟩
  have hL1 : W1.heap[w.heap.size + 1]? = some (.loop (rec .ready none)) := by
    rw [← hW1]; have := World.alloc_heap_new (w.alloc (.deferred (some []))) (.loop (rec .ready none)); rwa [World.size_alloc] at this
  have hK1 : W1.heap[w.heap.size]? = some (.deferred (some [])) := by
    rw [← hW1]; exact (Below.heap_alloc _ _ _ (by simp)).trans (World.alloc_heap_new w _)
  have hM1 : Mod [] w W1 := by rw [← hW1]; exact ((Mod.refl [] w).alloc _).alloc _
  have hs1 : W1.heap.size = w.heap.size + 2 := by rw [← hW1]; simp
  have hI1 : I [] C0 W1 := hI _ _ _ _ [] h0 hM1 (by simp)
  refine ⟨w.heap.size + 1, [{ target := .collected w.heap.size, args := #[] }], W1, { target := .fn (.func gf) lb, args := #[.func (.yield (w.heap.size + 1)) #[] #[]] }, W1, gf,
    #[.func (.yield (w.heap.size + 1)) #[] #[]] ++ lb, W1, ?_, ?_, ?_, ?_, (fun h => by cases h), ?_⟩
  · rw [← hW1, hrec]; exact run_enterLoop_outer _ _ _ _ _
  · simp only [resolve, hg]
    simp [go_sem]
  · intro f' hf'; trivial
  · simp [invoke, go_sem, eg]
  · refine callsIn_wide.2 ?_
    have ab : ∀ {J : List α → List Nat → World → Prop} {o : List α → Loop}, AbC w.heap.size M J → ∀ pre Cu W W' S, J pre Cu W → Mod S W W' → (∀ q ∈ S, (W1.heap.size ≤ q ∨ q ∈ M) ∧ q ∉ w.heap.size :: (w.heap.size + 1) :: Cu) → J pre Cu W' := fun hJ pre Cu W W' S h1 h2 h3 =>
      hJ _ _ _ _ S h1 h2 (fun q hq => ⟨(h3 q hq).1.imp (fun h => by omega) id, fun h4 => (h3 q hq).2 (by simp [h4])⟩)
    have kp : ∀ {W W' : World} {S Cu : List Nat} {k : Nat} {o : Obj}, Mod S W W' → (∀ q ∈ S, (W1.heap.size ≤ q ∨ q ∈ M) ∧ q ∉ w.heap.size :: (w.heap.size + 1) :: Cu) → (k = w.heap.size ∨ k = w.heap.size + 1) → W.heap[k]? = some o → W'.heap[k]? = some o := fun hm hS hk ho =>
      (hm.block _ (Array.getElem?_eq_some_iff.1 ho).1 (fun h4 => (hS _ h4).2 (by rcases hk with rfl | rfl <;> simp))).trans ho
    refine (hseq (w.heap.size + 1)
      (fun pre C W => ∃ Cu, C = w.heap.size :: (w.heap.size + 1) :: Cu ∧ (∀ q ∈ Cu, q ≠ w.heap.size ∧ q ≠ w.heap.size + 1) ∧ I pre Cu W ∧ W.heap[w.heap.size + 1]? = some (.loop (rec .ready none)) ∧ W.heap[w.heap.size]? = some (.deferred (some [])))
      (fun pre C W => ∃ Cu c, C = w.heap.size :: (w.heap.size + 1) :: Cu ∧ (∀ q ∈ Cu, q ≠ w.heap.size ∧ q ≠ w.heap.size + 1) ∧ Ix c pre Cu W ∧ W.heap[w.heap.size + 1]? = some (.loop (rec .done (some c))) ∧ W.heap[w.heap.size]? = some (.deferred (some [])))
      (w.heap.size :: (w.heap.size + 1) :: C0) [] W1 hM1 (by simp) ?_ ?_ ?_ ?_ ⟨C0, rfl, fun q hq => by have := (hC0 q hq).1; omega, hI1, hL1, hK1⟩).mono ?_
    · intro q hq
      simp only [List.mem_cons] at hq
      rcases hq with rfl | rfl | hq
      · exact ⟨by omega, fun h => by have := hR _ h; omega⟩
      · exact ⟨by omega, fun h => by have := hR _ h; omega⟩
      · exact ⟨by have := (hC0 q hq).1; omega, (hC0 q hq).2⟩
    · rintro pre C W W' S ⟨Cu, rfl, h1, h2, h3, h4⟩ hm hS
      exact ⟨Cu, rfl, h1, ab (o := fun _ => rec .ready none) hI _ _ _ _ S h2 hm hS, kp hm hS (.inr rfl) h3, kp hm hS (.inl rfl) h4⟩
    · rintro pre C W W' S ⟨Cu, c, rfl, h1, h2, h3, h4⟩ hm hS
      exact ⟨Cu, c, rfl, h1, ab (o := fun _ => rec .ready none) (hIx c) _ _ _ _ S h2 hm hS, kp hm hS (.inr rfl) h3, kp hm hS (.inl rfl) h4⟩
    · -- one round
      rintro pre x C W ⟨Cu, rfl, hne, hi, hl, hk⟩ hlen hlt
      have hCu : ∀ q ∈ Cu, q < W.heap.size := fun q hq => hlt q (by simp [hq])
      have hl0 : w.heap.size + 1 < W.heap.size := hlt _ (by simp)
      have hy := run_yield (P := P) (args := encs x) hl (by rw [hrec]; exact hps x)
      rw [hrec] at hy
      refine ⟨fn, _, assign, body, hy, RoundIn.any (roundIn_of_wpIn (n := n) hfn (hassign _ pre x Cu W _ hi hCu ?_))⟩
      clear hy
      intro a' Ca Wa hma hna hax
      have hla := (hma.block _ hl0 (by simp)).trans hl
      have hka := (hma.block _ (show w.heap.size < W.heap.size by omega) (by simp)).trans hk
      have hla0 : w.heap.size + 1 < Wa.heap.size := by have := hma.size; omega
      refine ⟨_, run_beginRound hla (by rw [hrec]), ?_⟩
      obtain ⟨Wb, hWb⟩ : ∃ Wb, Wa.putObj (w.heap.size + 1) (.loop { rec .ready none with state := .busy }) = Wb := ⟨_, rfl⟩
      have hmb : Mod [w.heap.size + 1] Wa Wb := by rw [← hWb]; exact (Mod.refl _ Wa).putObj (.inl (by simp)) _
      have hlb : Wb.heap[w.heap.size + 1]? = some (.loop { rec .ready none with state := .busy }) := by rw [← hWb]; exact World.putObj_heap_same hla0
      have hkb := (hmb.block _ (show w.heap.size < Wa.heap.size by omega) (by simp)).trans hka
      have hCa : ∀ q ∈ Ca, q ≠ w.heap.size ∧ q ≠ w.heap.size + 1 := fun q hq => by
        rcases (hna q hq).1 with h1 | h1
        · exact hne q h1
        · omega
      have hsb : Wb.heap.size = Wa.heap.size := by rw [← hWb]; simp
      rw [show (Wa.putObj (w.heap.size + 1) (.loop { rec .ready none with state := .busy })) = Wb from hWb]
      refine wpIn_mono (hbody _ pre x a' Ca Wb ((hAx x a') _ _ _ _ [w.heap.size + 1] hax hmb (fun q hq => by simp at hq; subst hq; exact ⟨.inl (by omega), fun h => (hCa _ h).2 rfl⟩)) hlen (fun q hq => by rw [hsb]; exact (hna q hq).2)) ?_
      have fin : ∀ (jump : Option Code) (W3 : World) (Cd : List Nat), Mod Ca Wb W3 → NewC Ca Cd Wb W3 →
          (Instr.endRound (w.heap.size + 1) jump).run P W3 = .ok (.bool jump.isNone) (W3.putObj (w.heap.size + 1) (.loop (rec (if jump.isNone then .ready else .done) jump))) ∧
          (∀ q ∈ Cd, q ≠ w.heap.size ∧ q ≠ w.heap.size + 1) ∧
          Mod [w.heap.size + 1] W3 (W3.putObj (w.heap.size + 1) (.loop (rec (if jump.isNone then .ready else .done) jump))) ∧
          (W3.putObj (w.heap.size + 1) (.loop (rec (if jump.isNone then .ready else .done) jump))).heap[w.heap.size + 1]? = some (.loop (rec (if jump.isNone then .ready else .done) jump)) ∧
          (W3.putObj (w.heap.size + 1) (.loop (rec (if jump.isNone then .ready else .done) jump))).heap[w.heap.size]? = some (.deferred (some [])) ∧
          Mod (w.heap.size :: (w.heap.size + 1) :: Cu) W (W3.putObj (w.heap.size + 1) (.loop (rec (if jump.isNone then .ready else .done) jump))) ∧
          NewC (w.heap.size :: (w.heap.size + 1) :: Cu) (w.heap.size :: (w.heap.size + 1) :: Cd) W (W3.putObj (w.heap.size + 1) (.loop (rec (if jump.isNone then .ready else .done) jump))) := fun jump W3 Cd hm3 hn3 => by
        have hl3 := (hm3.block _ (by omega) (fun h => (hCa _ h).2 rfl)).trans hlb
        have hk3 := (hm3.block _ (show w.heap.size < Wb.heap.size by omega) (fun h => (hCa _ h).1 rfl)).trans hkb
        have h := run_endRound (P := P) jump hl3
        have h3s := hm3.size
        have has := hma.size
        rw [hrec] at h ⊢
        refine ⟨h, fun q hq => ?_, (Mod.refl _ _).putObj (.inl (by simp)) _, World.putObj_heap_same (by omega), (World.putObj_heap_other (by omega)).trans hk3, ?_, ?_⟩
        · rcases (hn3 q hq).1 with h1 | h1
          · exact hCa q h1
          · omega
        · refine (((hma.mono (T := w.heap.size :: (w.heap.size + 1) :: Cu) (by simp)).trans hmb (fun q hq => .inl (by simp at hq; simp [hq]))).trans hm3 (fun q hq => ?_)).putObj (.inl (by simp)) _
          rcases (hna q hq).1 with h1 | h1
          · exact .inl (by simp [h1])
          · exact .inr h1
        · intro q hq
          rw [World.putObj_size]
          simp only [List.mem_cons] at hq
          rcases hq with rfl | rfl | hq
          · exact ⟨.inl (by simp), by omega⟩
          · exact ⟨.inl (by simp), by omega⟩
          · refine ⟨?_, (hn3 q hq).2⟩
            rcases (hn3 q hq).1 with h1 | h1
            · rcases (hna q h1).1 with h2 | h2
              · exact .inl (by simp [h2])
              · exact .inr h2
            · exact .inr (by omega)
      have abl : ∀ {J : List α → List Nat → World → Prop} {pre Cd W3 W4}, AbC w.heap.size M J → J pre Cd W3 → Mod [w.heap.size + 1] W3 W4 → (∀ q ∈ Cd, q ≠ w.heap.size ∧ q ≠ w.heap.size + 1) → J pre Cd W4 := fun hJ h1 h2 h3 =>
        hJ _ _ _ _ _ h1 h2 (fun q hq => by simp at hq; subst hq; exact ⟨.inl (by omega), fun h => (h3 _ h).2 rfl⟩)
      rintro e a3 W3 hp
      cases e with
      | normal =>
        obtain ⟨Cd, hm3, hn3, hi3⟩ := hp
        obtain ⟨hr, h1, h2, h3, h4, h5, h6⟩ := fin none W3 Cd hm3 hn3
        exact ⟨_, _, hr, _, h5, h6, .inl ⟨rfl, Cd, rfl, h1, abl hI hi3 h2 h1, h3, h4⟩⟩
      | ret =>
        obtain ⟨Cd, hm3, hn3, hi3⟩ := hp
        obtain ⟨hr, h1, h2, h3, h4, h5, h6⟩ := fin (some .ret) W3 Cd hm3 hn3
        exact ⟨_, _, hr, _, h5, h6, .inr ⟨rfl, Cd, _, rfl, h1, abl (hIx _) hi3 h2 h1, h3, h4⟩⟩
      | exit id =>
        obtain ⟨Cd, hm3, hn3, hi3⟩ := hp
        obtain ⟨hr, h1, h2, h3, h4, h5, h6⟩ := fin (some (.exit id)) W3 Cd hm3 hn3
        exact ⟨_, _, hr, _, h5, h6, .inr ⟨rfl, Cd, _, rfl, h1, abl (hIx _) hi3 h2 h1, h3, h4⟩⟩
      | goto t =>
        obtain ⟨Cd, hm3, hn3, hi3⟩ := hp
        obtain ⟨hr, h1, h2, h3, h4, h5, h6⟩ := fin (some (.goto t)) W3 Cd hm3 hn3
        exact ⟨_, _, hr, _, h5, h6, .inr ⟨rfl, Cd, _, rfl, h1, abl (hIx _) hi3 h2 h1, h3, h4⟩⟩
      | panic ch => exact hp.elim
      | outgrown => exact hp.elim
    · -- behind the iterator
      have abl : ∀ {J : List α → List Nat → World → Prop} {pre Cd W3 W4}, AbC w.heap.size M J → J pre Cd W3 → Mod [w.heap.size + 1] W3 W4 → (∀ q ∈ Cd, q ≠ w.heap.size ∧ q ≠ w.heap.size + 1) → J pre Cd W4 := fun hJ h1 h2 h3 =>
        hJ _ _ _ _ _ h1 h2 (fun q hq => by simp at hq; subst hq; exact ⟨.inl (by omega), fun h => (h3 _ h).2 rfl⟩)
      rintro e W2 ⟨⟨v, rfl⟩, C', hC', (⟨xs, hS, Cu, rfl, hne, hi, hl, hk⟩ | ⟨pre, hSp, Cu, c, rfl, hne, hi, hl, hk⟩)⟩
      · have hm : ∀ o, Mod [w.heap.size + 1] W2 (W2.putObj (w.heap.size + 1) o) := fun o => (Mod.refl _ _).putObj (.inl (by simp)) _
        exact ⟨none, _, by have := run_endLoop (P := P) hl (by rw [hrec]; simp); rw [hrec] at this; exact this, hdone xs Cu W2 _ hS (hm _) (abl hI hi (hm _) hne) (fun q hq => ⟨by rw [World.putObj_size]; exact hC' q (by simp [hq]), (hne q hq).1⟩) ((World.putObj_heap_other (by omega)).trans hk)⟩
      · have hm : ∀ o, Mod [w.heap.size + 1] W2 (W2.putObj (w.heap.size + 1) o) := fun o => (Mod.refl _ _).putObj (.inl (by simp)) _
        exact ⟨some c, _, by have := run_endLoop (P := P) hl (by rw [hrec]; simp); rw [hrec] at this; exact this, hstop c pre Cu W2 _ hSp (hm _) (abl (hIx c) hi (hm _) hne) (fun q hq => ⟨by rw [World.putObj_size]; exact hC' q (by simp [hq]), (hne q hq).1⟩) ((World.putObj_heap_other (by omega)).trans hk)⟩
/-- THE LAW, WHERE THE ASSIGNMENT TURNS SLOTS ALONE. -/
theorem wpIn_rangeCF {α : Type} {n : Nat} {P : Program} {g : Operand} {ps : Array Tmp} {assign body : Code} {Q : Exit → Act → World → Prop} {a : Act} {w : World}
    {gf : Nat} {lb : Array Value} (hg : a.eval g = .func (.func gf) #[] lb) (eg : ∀ args w, (callFunc gf args).run P w = .ok (.enter gf args) w)
    {encs : α → Array Value} {S Sp : List α → World → Prop} {N : Nat} {R M : List Nat} (hseq : ItC P gf lb encs S Sp N R M w) (hR : ∀ q ∈ R, q < w.heap.size) (hM : ∀ q ∈ M, q ∈ R) (hps : ∀ x, (encs x).size = ps.size)
    (I : List α → List Nat → World → Prop) (Ix : Code → List α → List Nat → World → Prop) (hI : AbC w.heap.size M I) (hIx : ∀ c, AbC w.heap.size M (Ix c)) (C0 : List Nat) (hC0 : ∀ q ∈ C0, q < w.heap.size ∧ q ∉ R) (h0 : I [] C0 w) (a₁ : α → Act)
    (hassign : ∀ (l : Nat) (x : α) (W : World) (K : Act → World → Prop), K (a₁ x) W →
      assign.wpIn (Fence.wide.inRound l) n P (Exit.then K (fun _ _ _ => False)) { tmps := (ps.zip (encs x)).foldl (fun t (p, v) => t.setIfInBounds p v) a.tmps, defers := [] } W)
    (hbody : ∀ (l : Nat) (pre : List α) (x : α) (C : List Nat) (W : World), I pre C W → pre.length < N → (∀ q ∈ C, q < W.heap.size) → body.wpIn (Fence.wide.inRound l) n P (postC I Ix (pre ++ [x]) C W) (a₁ x) W)
    (hdone : ∀ (xs : List α) (C : List Nat) (W2 W : World), S xs W2 → Mod [w.heap.size + 1] W2 W → I xs C W → (∀ q ∈ C, q < W.heap.size ∧ q ≠ w.heap.size) → W.heap[w.heap.size]? = some (.deferred (some [])) → Q .normal { a with defers := { target := .collected w.heap.size, args := #[] } :: a.defers } W)
    (hstop : ∀ (c : Code) (pre : List α) (C : List Nat) (W2 W : World), Sp pre W2 → Mod [w.heap.size + 1] W2 W → Ix c pre C W → (∀ q ∈ C, q < W.heap.size ∧ q ≠ w.heap.size) → W.heap[w.heap.size]? = some (.deferred (some [])) → c.wpIn Fence.wide n P Q { a with defers := { target := .collected w.heap.size, args := #[] } :: a.defers } W) :
    (Code.rangeFunc g ps assign body).wpIn Fence.wide n P Q a w :=
  wpIn_rangeC hg eg hseq hR hM hps I Ix hI hIx C0 hC0 h0 (fun x a' pre C W => a' = a₁ x ∧ I pre C W) (fun x a' s C W W' S h hm hS => ⟨h.1, hI s C W W' S h.2 hm hS⟩)
    (fun l pre x C W K hi hC hK => hassign l x W K (hK _ C W (Mod.refl _ _) (NewC.refl hC) ⟨rfl, hi⟩)) (fun l pre x a' C W h hlen hC => by obtain ⟨rfl, hi⟩ := h; exact hbody l pre x C W hi hlen hC) hdone hstop
/-- A function that holds a range, at its end: the block for the rounds' deferred calls is shut. -/
theorem bodyPostM_end {n : Nat} {P : Program} {fn : Func} {R : Ending → World → Prop} {a : Act} {w : World} {v : Value} {D : Nat} (hd : a.defers = [{ target := .collected D, args := #[] }]) (hk : w.heap[D]? = some (.deferred (some [])))
    (hr : (results fn a.tmps).run P (w.putObj D (.deferred none)) = .ok v (w.putObj D (.deferred none))) (hR : R (.returned v) (w.putObj D (.deferred none))) : bodyPostM Fence.wide n P fn R .ret a w ∧ bodyPostM Fence.wide n P fn R .normal a w := by
  have h : LeavesInM Fence.wide n P fn a.tmps R a.defers .returning w := by
    rw [hd]
    exact ⟨by simp, .inl ⟨_, _, rfl, run_takeDeferred hk, ⟨v, hr, hR⟩⟩⟩
  exact ⟨h, h⟩
end Go.Proofs.Ytfioekkegihkoaa

/- What a loop's body over an iterator keeps: all cells but those of the caller's own blocks C. -/
namespace Go.Proofs.Ytfioekkegihkoaa
open Go.RowKit
set_option linter.unusedVariables false
set_option linter.unusedSimpArgs false
def KpC (C : List Nat) (W W' : World) : Prop := W.heap.size ≤ W'.heap.size ∧ ∀ k o, k ∉ C → W.heap[k]? = some o → o.isCells = true → W'.heap[k]? = some o
theorem KpC.refl (C : List Nat) (W : World) : KpC C W W := ⟨Nat.le_refl _, fun _ _ _ h _ => h⟩
theorem KpC.trans {C : List Nat} {A B D : World} (h : KpC C A B) (k : KpC C B D) : KpC C A D := ⟨Nat.le_trans h.1 k.1, fun q o hq h1 h2 => k.2 q o hq (h.2 q o hq h1 h2) h2⟩
theorem KpC.put {C : List Nat} (W : World) (l : Nat) (o o' : Obj) (hl : W.heap[l]? = some o) (ho : o.isCells = false) : KpC C W (W.putObj l o') := by
  refine ⟨by simp, fun k q hk h1 h2 => ?_⟩
  have : k ≠ l := by rintro rfl; rw [hl] at h1; injection h1 with h1; subst h1; rw [ho] at h2; cases h2
  rw [World.putObj_heap_other this]; exact h1
theorem KpC.of_mod {C S : List Nat} {W W' : World} (h : Mod S W W') (hS : ∀ k ∈ S, k ∈ C) : KpC C W W' :=
  ⟨h.size, fun k o hk h1 _ => (h.block k (Array.getElem?_eq_some_iff.1 h1).1 (fun hm => hk (hS k hm))).trans h1⟩
section
variable {C : List Nat} {W W' : World}
theorem Blk.kp {b t : Nat} {cs : Array Value} (h : Blk W b t cs) (hk : KpC C W W') (hb : b ∉ C) : Blk W' b t cs := hk.2 b _ hb h rfl
theorem Row.kp {e sz n : Nat} {v : Value} {xs : List Value} (h : Row W e sz v n xs) (hk : KpC C W W') (hb : ∀ k ∈ rb v, k ∉ C) : Row W' e sz v n xs := by
  refine ⟨h.1, ?_⟩
  rcases h.2 with hn | ⟨g, cap, cur, rfl, hb', hgg, rest⟩
  · exact .inl hn
  · exact .inr ⟨g, cap, cur, rfl, hb', hk.2 g _ (hb g (by simp [rb, Value.ownBlock])) hgg rfl, rest⟩
theorem PoolAt.kp {α : Type} {T : PT α} {pb mb : Nat} {F : List Nat} {s : PS α} (h : PoolAt T W pb mb F s) (hk : KpC C W W') (hF : ∀ k ∈ F, k ∉ C) : PoolAt T W' pb mb F s := by
  obtain ⟨cv, fv, rfl, h⟩ := h
  exact ⟨cv, fv, rfl, h.blk.kp hk (hF _ (by simp)), h.cells.kp hk (fun k hk => hF k (by simp [hk])), h.free.kp hk (fun k hk => hF k (by simp [hk])), h.wf⟩
theorem cell_kp {b i : Nat} {v : Value} (h : W.cell? ⟨b, i, none⟩ = some v) (hk : KpC C W W') (hb : b ∉ C) : W'.cell? ⟨b, i, none⟩ = some v := by
  unfold World.cell? at h ⊢
  cases hb' : W.heap[b]? with
  | none => simp [hb'] at h
  | some o =>
    simp only [hb'] at h
    cases o with
    | cells cs t fz => rw [hk.2 b _ hb hb' rfl]; exact h
    | _ => simp at h
theorem ISl.kp {k : IntKind} {v : Value} {l : List Int} (h : ISl k W v l) (hk : KpC C W W') (hb : ∀ b ∈ rb v, b ∉ C) : ISl k W' v l := by
  obtain ⟨a, cap, rfl, h1, h2, h3, h4⟩ := h
  refine ⟨a, cap, rfl, h1, h2, h3, h4.imp id ?_⟩
  rintro ⟨b, off, rfl, h5⟩
  exact ⟨b, off, rfl, fun i x hx => cell_kp (h5 i x hx) hk (hb b (by simp [rb, Value.ownBlock]))⟩
end
theorem Mod.grown {w w' : World} (h : Mod [] w w') : w.grownBy w' none := ⟨h.os, h.tape, h.output, h.size, fun k hk _ => h.block k hk (by simp)⟩
theorem AbidesFrom.mod {β : Type} {B : Nat} {J : β → World → Prop} (h : AbidesFrom B J) {s : β} {W W' : World} (hs : J s W) (hm : Mod [] W W') : J s W' := h s W W' none hs hm.grown (fun r e => by cases e)
end Go.Proofs.Ytfioekkegihkoaa
