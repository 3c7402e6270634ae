/- The hash table's own arithmetic: where a key's home is. -/
import Derived.Test.YtnbanbfnabhjjaaHashM
import Derived.Test.YtnbanbfnabhjjaaCount
import Derived.OpenShut
import Derived.Test.YtnbanbfnabhjjaaLen
namespace Go.Proofs.Ytnbanbfnabhjjaa
open Go.RowKit
set_option linter.unusedVariables false
set_option linter.unusedSimpArgs false

/-- A word. -/
structure U64 (x : Int) : Prop where mk :: (out : 0 ≤ x ∧ x < 18446744073709551616)
theorem U64.wrap (x : Int) : U64 (IntKind.u64.wrap x) := ⟨by rw [IntKind.wrap_u64]; omega⟩
theorem U64.bits (op : BinOp) (a b : Int) (h : ∃ n, bits op .u64 a b = IntKind.u64.wrap n) : U64 (bits op .u64 a b) := by obtain ⟨n, hn⟩ := h; rw [hn]; exact U64.wrap n
theorem U64.or (a b : Int) : U64 (Go.bits .or .u64 a b) := U64.bits _ _ _ ⟨_, rfl⟩
theorem U64.xor (a b : Int) : U64 (Go.bits .xor .u64 a b) := U64.bits _ _ _ ⟨_, rfl⟩
theorem U64.and (a b : Int) : U64 (Go.bits .and .u64 a b) := U64.bits _ _ _ ⟨_, rfl⟩
def rot0F (x : Int) : Int := bits .or .u64 x (x / 18446744073709551616)
def rot23F (x : Int) : Int := bits .or .u64 (IntKind.u64.wrap (x * 8388608)) (x / 2199023255552)
def rot41F (x : Int) : Int := bits .or .u64 (IntKind.u64.wrap (x * 2199023255552)) (x / 8388608)
def seedF (seed : Int) : Int := IntKind.u64.wrap (IntKind.u64.wrap (seed * 11400714819323198485) + 15111065706836454659)
def odd0F (seed : Int) : Int := bits .or .u64 (rot0F (seedF seed)) 1
def odd23F (seed : Int) : Int := bits .or .u64 (rot23F (seedF seed)) 1
def odd41F (seed : Int) : Int := bits .or .u64 (rot41F (seedF seed)) 1

set_option maxHeartbeats 400000 in
theorem rot0 (x : Int) (w : World) (hx : U64 x) :
    Calls Try.prog 123 #[.int .u64 x, .int .i64 0] w fun e w' => e = .returned (.int .u64 (rot0F x)) ∧ w = w' := by
  have hb0 : bits .and .u64 0 63 = 0 := by decide
  have h0 := hx.out.1
  have h1 := hx.out.2
  go_enter Try.func123, Try.ntmps123
  go_wp2
  go_ret
  exact ⟨rfl, rfl⟩
set_option maxHeartbeats 400000 in
theorem rot23 (x : Int) (w : World) (hx : U64 x) :
    Calls Try.prog 123 #[.int .u64 x, .int .i64 23] w fun e w' => e = .returned (.int .u64 (rot23F x)) ∧ w = w' := by
  have hb0 : bits .and .u64 23 63 = 23 := by decide
  have h0 := hx.out.1
  have h1 := hx.out.2
  go_enter Try.func123, Try.ntmps123
  go_wp2
  go_ret
  exact ⟨rfl, rfl⟩
set_option maxHeartbeats 400000 in
theorem rot41 (x : Int) (w : World) (hx : U64 x) :
    Calls Try.prog 123 #[.int .u64 x, .int .i64 41] w fun e w' => e = .returned (.int .u64 (rot41F x)) ∧ w = w' := by
  have hb0 : bits .and .u64 41 63 = 41 := by decide
  have h0 := hx.out.1
  have h1 := hx.out.2
  go_enter Try.func123, Try.ntmps123
  go_wp2
  go_ret
  exact ⟨rfl, rfl⟩
set_option maxHeartbeats 400000 in
theorem odd0 (tb : Nat) (seed : Int) (w : World) (h2 : w.cell? ⟨tb, 2, none⟩ = some (.int .u64 seed)) :
    Calls Try.prog 109 #[.pointer (some ⟨tb, 0, none⟩), .int .i64 0] w fun e w' => e = .returned (.int .u64 (odd0F seed)) ∧ w' = w := by
  go_enter Try.func109, Try.ntmps109
  go_wp2_with (go_at_call 123; refine (rot0 _ _ (U64.wrap _)).mono ?_; rintro e w' ⟨rfl, rfl⟩)
  go_ret
  exact ⟨rfl, rfl⟩
set_option maxHeartbeats 400000 in
theorem odd23 (tb : Nat) (seed : Int) (w : World) (h2 : w.cell? ⟨tb, 2, none⟩ = some (.int .u64 seed)) :
    Calls Try.prog 109 #[.pointer (some ⟨tb, 0, none⟩), .int .i64 23] w fun e w' => e = .returned (.int .u64 (odd23F seed)) ∧ w' = w := by
  go_enter Try.func109, Try.ntmps109
  go_wp2_with (go_at_call 123; refine (rot23 _ _ (U64.wrap _)).mono ?_; rintro e w' ⟨rfl, rfl⟩)
  go_ret
  exact ⟨rfl, rfl⟩
set_option maxHeartbeats 400000 in
theorem odd41 (tb : Nat) (seed : Int) (w : World) (h2 : w.cell? ⟨tb, 2, none⟩ = some (.int .u64 seed)) :
    Calls Try.prog 109 #[.pointer (some ⟨tb, 0, none⟩), .int .i64 41] w fun e w' => e = .returned (.int .u64 (odd41F seed)) ∧ w' = w := by
  go_enter Try.func109, Try.ntmps109
  go_wp2_with (go_at_call 123; refine (rot41 _ _ (U64.wrap _)).mono ?_; rintro e w' ⟨rfl, rfl⟩)
  go_ret
  exact ⟨rfl, rfl⟩

def oddF (seed turn : Int) : Int := if turn = 0 then odd0F seed else if turn = 23 then odd23F seed else odd41F seed
theorem odd_any (tb : Nat) (seed turn : Int) (w : World) (ht : turn = 0 ∨ turn = 23 ∨ turn = 41) (h2 : w.cell? ⟨tb, 2, none⟩ = some (.int .u64 seed)) :
    Calls Try.prog 109 #[.pointer (some ⟨tb, 0, none⟩), .int .i64 turn] w fun e w' => e = .returned (.int .u64 (oddF seed turn)) ∧ w' = w := by
  rcases ht with rfl | rfl | rfl
  · exact odd0 tb seed w h2
  · exact odd23 tb seed w h2
  · exact odd41 tb seed w h2
/-- A key, mixed with the seed. -/
def mix1F (seed l p : Int) : Int := IntKind.u64.wrap (IntKind.u64.wrap (p * oddF seed 0) + IntKind.u64.wrap (l * oddF seed 23))
def mix2F (seed x : Int) : Int := IntKind.u64.wrap (bits .xor .u64 x (x / 536870912) * oddF seed 41)
/-- The home of a key among 2 ^ b places. -/
def homeF (seed : Int) (b : Nat) (k : Int × Int) : Nat := (mix2F seed (mix1F seed k.1 k.2)).toNat / 2 ^ (64 - b)
theorem homeF_lt (seed : Int) (b : Nat) (hb : b ≤ 64) (k : Int × Int) : homeF seed b k < 2 ^ b := by
  unfold homeF
  have h := (U64.wrap (bits .xor .u64 (mix1F seed k.1 k.2) (mix1F seed k.1 k.2 / 536870912) * oddF seed 41)).out
  have e : 2 ^ b * 2 ^ (64 - b) = 2 ^ 64 := by rw [← Nat.pow_add]; congr 1; omega
  rw [Nat.div_lt_iff_lt_mul (Nat.pow_pos (by omega)), e]
  show (IntKind.u64.wrap _).toNat < _
  omega
theorem home_val (seed l p : Int) (b N : Nat) (hb : b ≤ 64) (hN : N = 2 ^ b) : mix2F seed (mix1F seed l p) / 2 ^ (64 - b) = (homeF seed b (l, p) : Nat) := by
  unfold homeF
  have h := (U64.wrap (bits .xor .u64 (mix1F seed l p) (mix1F seed l p / 536870912) * oddF seed 41)).out
  have h0 : 0 ≤ mix2F seed (mix1F seed l p) := h.1
  rw [Int.natCast_ediv, Int.toNat_of_nonneg h0]; simp
set_option maxRecDepth 100000 in
set_option maxHeartbeats 1000000 in
theorem home_any (tb pb : Nat) (seed l p : Int) (b N : Nat) (w : World) (hb : 1 ≤ b) (hb2 : b ≤ 40) (hN : N = 2 ^ b) (hp : U64 p) (hl0 : 0 ≤ l) (hl1 : l ≤ 255)
    (h1 : w.cell? ⟨tb, 1, none⟩ = some (.slice (some ⟨pb, 0, none⟩) N N)) (h2 : w.cell? ⟨tb, 2, none⟩ = some (.int .u64 seed)) (hlt : tb < w.heap.size) :
    Calls Try.prog 86 #[.pointer (some ⟨tb, 0, none⟩), .agg #[.int .u8 l, .int .u64 p]] w fun e w' => e = .returned (.int .i64 (homeF seed b (l, p))) ∧ Mod [] w w' := by
  have h2' : ∀ o, (w.alloc o).cell? ⟨tb, 2, none⟩ = some (.int .u64 seed) := fun o => by rw [World.cell?_alloc_lt _ _ _ hlt]; exact h2
  have h1' : ∀ o, (w.alloc o).cell? ⟨tb, 1, none⟩ = some (.slice (some ⟨pb, 0, none⟩) N N) := fun o => by rw [World.cell?_alloc_lt _ _ _ hlt]; exact h1
  have h2'' : ∀ o n, ((w.alloc o).drewN n).cell? ⟨tb, 2, none⟩ = some (.int .u64 seed) := fun o _ => h2' o
  have h1'' : ∀ o n, ((w.alloc o).drewN n).cell? ⟨tb, 1, none⟩ = some (.slice (some ⟨pb, 0, none⟩) N N) := fun o _ => h1' o
  have hN1 : 2 ≤ N := by rw [hN]; exact Nat.le_trans (by decide) (Nat.pow_le_pow_right (by omega) hb)
  have hN2 : N ≤ 1099511627776 := by rw [hN]; exact Nat.le_trans (Nat.pow_le_pow_right (by omega) hb2) (by decide)
  have hlen : Hidden (Lib.bitLen ((N : Int) - 1).toNat = b) := ⟨by have : ((N : Int) - 1).toNat = 2 ^ b - 1 := by omega
                                                                   rw [this]; exact bitLen_mask b (by omega)⟩
  have hval : Hidden (mix2F seed (mix1F seed l p) / 2 ^ (64 - b) = (homeF seed b (l, p) : Nat)) := ⟨home_val seed l p b N (by omega) hN⟩
  clear hN
  go_enter Try.func86, Try.ntmps86
  go_wp2_with fail
  go_quiet ((go_at_call 109; exact Calls.quiet_of_same (odd_any _ _ _ _ (by simp) (h2' _))))
  have hx0 : 0 ≤ mix1F seed l p := (U64.wrap _).out.1
  rw [show IntKind.u64.wrap (IntKind.u64.wrap (p * oddF seed 0) + IntKind.u64.wrap (l * oddF seed 23)) = mix1F seed l p from rfl]
  go_wp2_with (first | (go_at_call 109; refine (odd_any _ _ _ _ (by simp) (h2'' _ _)).mono ?_; rintro e w' ⟨rfl, rfl⟩) | (go_at_call 110; refine (bits_Len _ _ (by omega) (by omega)).mono ?_; rintro e w' ⟨rfl, rfl⟩; rw [hlen.out]))
  go_ret
  refine ⟨congrArg (fun q => Ending.returned (Value.int .i64 q)) ?_, ((Mod.refl _ w).alloc _).drewN _⟩
  have hlt' : homeF seed b (l, p) < 1099511627776 := Nat.lt_of_lt_of_le (homeF_lt seed b (by omega) (l, p)) (Nat.le_trans (Nat.pow_le_pow_right (by omega) hb2) (by decide))
  show wrap64 (mix2F seed (mix1F seed l p) / 2 ^ (64 - b)) = _
  rw [hval.out]; unfold wrap64; omega
end Go.Proofs.Ytnbanbfnabhjjaa
