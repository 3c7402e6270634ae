/- Texts joined: SlW, Sl64A, Sl64B, Sl64C. -/
import Derived.Test.YtfioekkegihkoaaGOrd
import Derived.Test.YtfioekkegihkoaaGSl
import Derived.Laws.CopyRow
import Derived.Test.YtfioekkegihkoaaGSo64
set_option linter.unusedVariables false
set_option linter.unusedSimpArgs false
/- clear at a part of a row; append of so many zeros (slices.Grow). No program in sight. -/
namespace Go.Proofs.Ytfioekkegihkoaa
open Go.RowKit
set_option linter.unusedVariables false
set_option linter.unusedSimpArgs false
theorem Mod.setRow1 (w : World) (g : Nat) (cs : Array Value) : Mod [g] w (w.setRow g cs) :=
  ⟨rfl, rfl, rfl, by simp [World.setRow], fun k _ hn => setRow_other w g k _ (by simpa using hn)⟩
theorem clear_part {P : Program} {w w0 : World} {kk : IntKind} {e sz b n m : Nat} {d : Array Int} (t ty : TypeId) (ht : P.underlying t = some (.slice e)) (hz : ∀ w, (zeroValue e).run P w = .ok (.int kk 0) w)
    (hS : SR kk e sz b 0 n w0 w d) (hm : m < n) (hn : n ≤ sz) (c : Nat) :
    ∃ w', (Builtin.clear_ #[t] ty #[.slice (some ⟨b, m, none⟩) (n - m) c]).run P w = .ok (.tuple #[]) w' ∧ SR kk e sz b 0 m w0 w' (d.extract 0 m) := by
  obtain ⟨cur, hg, hcs, hc⟩ := hS.blk
  have hlen : (Builtin.zeroCells (Value.int kk 0).cells (n - m)).toList.length = n - m := by rw [Array.length_toList, size_zeroCells]; simp [Value.cells]
  have hone : ∀ u ∈ (Builtin.zeroCells (Value.int kk 0).cells (n - m)).toList, u.oneCell' = true := by
    intro u hu
    simp only [Builtin.zeroCells, Array.mem_toList_iff, Array.mem_map, Array.mem_range] at hu
    obtain ⟨i, _, rfl⟩ := hu
    have : i % (Value.int kk 0).cells.size = 0 := by simp [Value.cells, Nat.mod_one]
    rw [this]; rfl
  have hst := run_storeCells_at (P := P) b m e (Builtin.zeroCells (Value.int kk 0).cells (n - m)).toList 0 cur w hg (by rw [hlen]; omega) hone
  refine ⟨w.setRow b (List.take (m + 0) cur.toList ++ (Builtin.zeroCells (Value.int kk 0).cells (n - m)).toList ++ List.drop (m + 0 + (Builtin.zeroCells (Value.int kk 0).cells (n - m)).toList.length) cur.toList).toArray, ?_, ?_⟩
  · obtain ⟨q, hq⟩ : ∃ q, n - m = q + 1 := ⟨n - m - 1, by omega⟩
    rw [hq] at hst ⊢
    simp [Builtin.clear_, run_underlying ht, hz, hst]
  · have hblt : b < w.heap.size := hS.lt
    refine ⟨by simp [hS.size]; omega, hS.mod.trans (Mod.setRow1 w b _) (by simp), _, setRow_heap w b cur _ e (0, 0) hg, ?_, fun t ht => ?_⟩
    · simp [size_zeroCells, Value.cells]; omega
    · have h1 := hc t (by omega)
      rw [Nat.zero_add] at h1 ⊢
      have h2 : t < cur.size := (Array.getElem?_eq_some_iff.1 h1).1
      have h3 : (d.extract 0 m)[t]! = d[t]! := by
        have hz := hS.size
        have : t < d.size := by omega
        simp [this, show t < min m d.size by omega]
      rw [h3, ← h1]
      simp only [List.getElem?_toArray, List.append_assoc]
      rw [List.getElem?_append_left (by simp; omega), List.getElem?_take_of_lt (by omega)]
      simp
theorem wpList_clear_part {P : Program} {w w0 : World} {ops : Array Oper} {rest : List Oper} {o : Oper} {a : Act} {Q : Exit → Act → World → Prop} (hgd : o.guard = none) (s : Operand) (t : TypeId)
    (ho : o.op = .call { callee := .builtin .clear, args := #[s], argTypes := #[t] })
    {kk : IntKind} {e sz b n m c : Nat} {d : Array Int} (ht : P.underlying t = some (.slice e)) (hz : ∀ w, (zeroValue e).run P w = .ok (.int kk 0) w)
    (hS : SR kk e sz b 0 n w0 w d) (hm : m < n) (hn : n ≤ sz) (hs : a.eval s = .slice (some ⟨b, m, none⟩) (n - m) c)
    (h : ∀ w', SR kk e sz b 0 m w0 w' (d.extract 0 m) → wpList P ops Q rest (a.put o.dst (.tuple #[])) w') : wpList P ops Q (o :: rest) a w := by
  obtain ⟨w', hr, h2⟩ := clear_part (P := P) (w := w) t o.type ht hz hS hm hn c
  refine wpList_plain hgd (fun K hK => ?_)
  unfold Oper.wp execOp
  simp only [ho, resolve, invoke, builtin, Sem.run_bind, Sem.run_pure, Result.andThen_ok, List.map_toArray, List.map_cons, List.map_nil, hs, hr]
  exact hK _ _ (h w' h2)
/-- append(nil, make([]E, n)...): n zeros in a block of its own. -/
theorem append_zeros {P : Program} {w : World} (t u ty e : TypeId) (i : TypeInfo) (kk : IntKind) (ku : IntKind) (ht : P.underlying t = some (.slice e)) (hu : P.underlying u = some (.int ku)) (hi : P.info? e = some i) (hz : i.zero = some (.int kk 0)) (hsz : i.size = 1)
    (n : Nat) (h0 : 0 < n) (h63 : (n : Int) ≤ 1000000000) (h48 : n * i.bytes ≤ 140737488355328) :
    ∃ cap w', (Builtin.append_ #[t, u] ty #[.slice none 0 0, .int .i64 n]).run P w = .ok (.slice (some ⟨w.heap.size, 0, none⟩) n cap) w' ∧ Mod [] w w' ∧ (∃ cs, Blk w' w.heap.size e cs ∧ cs.size = cap) ∧ n ≤ cap ∧ cap ≤ maxLen := by
  have hn : n ≠ 0 := by omega
  have h63' : ¬ (9223372036854775807 < (n : Int)) := by omega
  have h48' : ¬ (281474976710656 < Builtin.nextslicecap n 0 * i.bytes) := by rw [nextslicecap_zero h0]; omega
  have hw : IntKind.i64.wrap (n : Int) = n := IntWalk.i64_in _ (by omega)
  have hneg : ¬ ((n : Int) < 0) := by omega
  have hby : ¬ ((281474976710656 : Int) < (n : Int) * (i.bytes : Int)) := by
    have : ((n * i.bytes : Nat) : Int) = (n : Int) * (i.bytes : Int) := by push_cast; rfl
    omega
  have hcap := grownCap_ge w n 0 e
  have hcap2 := grownCap_le_maxLen w n 0 e (by unfold maxLen; omega)
  refine ⟨grownCap w n 0 e, w.drew.alloc (.cells (Builtin.zeroCells (Value.int kk 0).cells n ++ Builtin.zeroCells (Value.int kk 0).cells (grownCap w n 0 e - n)) e), ?_, (Mod.refl [] w).drew.alloc _, ⟨_, Blk.new w.drew e _, ?_⟩, hcap, hcap2⟩
  · simp [Builtin.append_, run_underlying ht, run_underlying hu, sizeOf, typeInfo, zeroValue, hi, hz, hsz, asInt, asIntOf, hw, hneg, hby, hn, h63', h48', Question.forced, run_firstCells_none, newRow, grownCap]
  · simp [size_zeroCells, Value.cells]; omega
theorem wpList_append_zeros {P : Program} {w : World} {ops : Array Oper} {rest : List Oper} {o : Oper} {a : Act} {Q : Exit → Act → World → Prop} (hgd : o.guard = none) (s x : Operand) (t u : TypeId)
    (ho : o.op = .call { callee := .builtin .append, args := #[s, x], argTypes := #[t, u] })
    (e : TypeId) (kk ku : IntKind) (bytes : Nat) (ht : P.underlying t = some (.slice e)) (hu : P.underlying u = some (.int ku)) (hi : (P.info? e).map (fun i => (i.zero, i.size, i.bytes)) = some (some (.int kk 0), 1, bytes))
    (n : Nat) (hs : a.eval s = .slice none 0 0) (hx : a.eval x = .int .i64 n) (h0 : 0 < n) (h63 : (n : Int) ≤ 1000000000) (h48 : n * bytes ≤ 140737488355328)
    (h : ∀ cap w', Mod [] w w' → (∃ cs, Blk w' w.heap.size e cs ∧ cs.size = cap) → n ≤ cap → cap ≤ 9223372036854775807 → wpList P ops Q rest (a.put o.dst (.slice (some ⟨w.heap.size, 0, none⟩) n cap)) w') : wpList P ops Q (o :: rest) a w := by
  obtain ⟨i, hi', hz, hsize, hby⟩ := info_parts hi
  subst hby
  obtain ⟨cap, w', hr, h2, h3, h4, h5⟩ := append_zeros (P := P) (w := w) t u o.type e i kk ku ht hu hi' hz hsize n h0 h63 h48
  refine wpList_plain hgd (fun K hK => ?_)
  unfold Oper.wp execOp
  simp only [ho, resolve, invoke, builtin, Sem.run_bind, Sem.run_pure, Result.andThen_ok, List.map_toArray, List.map_cons, List.map_nil, hs, hx, hr]
  exact hK _ _ (h cap w' h2 h3 h4 (by unfold maxLen at h5; exact h5))
end Go.Proofs.Ytfioekkegihkoaa

/- slices.Clone, Compact at uint64. -/
namespace Go.Proofs.Ytfioekkegihkoaa
open Go.RowKit
set_option linter.unusedVariables false
set_option linter.unusedSimpArgs false

theorem info64 : (Try.prog.info? 22).map (fun i => (i.zero, i.size, i.bytes)) = some (some (.int .u64 0), 1, 8) := by kernel_rfl
theorem zero64 (w : World) : (zeroValue 22).run Try.prog w = .ok (.int .u64 0) w := by kernel_rfl
set_option maxHeartbeats 1000000 in
theorem clone64 {w : World} {v : Value} {l : List Int} (h : ISl .u64 w v l) (hl : l.length ≤ 1000000000) :
    Calls Try.prog 62 #[v] w fun e w' => ∃ v', e = .returned v' ∧ WayI .u64 22 w w' v' l.length l := by
  obtain ⟨a, cap, rfl, k1, k2, k3, k4⟩ := id h
  have q22 : ∀ (w : World) (a : Option Addr) (n c n' c' : Nat), (binOp .eql 23 (.slice a n c) (.slice none n' c')).run Try.prog w = .ok (.bool a.isNone) w := fun w a n c n' c' => Lib.run_eql_slice_nil w _ _ a n c n' c' Try.underlying23
  cases a with
  | none =>
    have hc := k3 rfl
    have hnil : l = [] := List.eq_nil_of_length_eq_zero (by omega)
    subst hnil
    clear k4
    go_enter Try.func62, Try.ntmps62
    go_wp2
    go_ret
    exact ⟨_, rfl, WayI.nil_ (Mod.refl [] w)⟩
  | some ad =>
    have hw2 := Hidden.mk (WayI.empty (k := .u64) (e := 22) (Mod.refl [] w))
    have hh := Hidden.mk ((h.alloc (.cells #[] 22)).holds)
    have h1 := Hidden.mk (icells_one .u64 l)
    clear k3 k4 h
    go_enter Try.func62, Try.ntmps62
    go_wp2_with (refine wpList_any rfl (.tmp 5) (.tmp 6) 23 rfl 22 (.int .u64 0) 1 8 (by kernel_rfl) info64 rfl (by decide) _ _ _ rfl hw2.out.row _ _ _ rfl hh.out h1.out (by omega) (by omega) ?_; intro b4 c4 w4 hr4 hm4 hf4; have hW4 := Hidden.mk (hw2.out.next hr4 hm4 hf4 (m := l) (by simp [icells])); clear hr4 hm4 hf4 hw2)
    go_ret
    exact ⟨_, rfl, by have := hW4.out; simpa using this⟩
set_option maxHeartbeats 2000000 in
theorem compact64 {w : World} {v : Value} {l : List Int} (h : Row w 22 1 v l.length (icells .u64 l)) (hl : l.length ≤ 1000000000) :
    Calls Try.prog 65 #[v] w fun e w' => ∃ v', e = .returned v' ∧ Row w' 22 1 v' (cpc l).length (icells .u64 (cpc l)) ∧ rb v' = rb v ∧ Mod (rb v) w w' := by
  by_cases h2 : l.length < 2
  · have e : cpc l = l := by
      unfold cpc
      rw [cpt_take _ (Nat.le_refl _) (fun i h1 h2 => by omega), List.take_length]
    obtain ⟨a, cap, rfl, k1, k2⟩ := h.slice_
    have H := Hidden.mk h
    have H2 := Hidden.mk e
    clear h e
    have h2z : (l.length : Int) < 2 := by omega
    go_enter Try.func65, Try.ntmps65
    go_wp2
    go_ret
    exact ⟨_, rfl, by rw [H2.out]; exact H.out, rfl, Mod.refl _ _⟩
  · obtain ⟨g, cap, rfl, hrb, hS, k1, k2⟩ := SR.of_row h (by omega)
    have H := Hidden.mk (And.intro h hrb)
    have HS := Hidden.mk hS
    clear h hS hrb
    generalize hn : l.length = n at *
    have HN := Hidden.mk hn
    clear hn
    have hG : ∃ L : Nat → Int, ∀ t, L t = l.getD t 0 := ⟨fun t => l.getD t 0, fun _ => rfl⟩
    obtain ⟨L, hL⟩ := hG
    have HL := Hidden.mk hL
    have hd0 : Hidden (∀ t, t < n → l.toArray[t]! = L t) := ⟨fun t ht => by rw [hL]; have := HN.out; simp [List.getD_eq_getElem?_getD, show t < l.length by omega]⟩
    clear hL
    go_enter Try.func65, Try.ntmps65
    go_wp2_with fail
    go_loopw [3] (fun vk wr => ∃ k : Nat, vk = .int .i64 k ∧ 1 ≤ k ∧ k ≤ n ∧ SR .u64 22 cap g 0 n w wr l.toArray ∧ (∀ i, 0 < i → i < k → L i ≠ L (i - 1))) (fun vk _ => n - (intOf vk).toNat)
    case atStart => exact ⟨1, rfl, by omega, by omega, HS.out, by omega⟩
    case round =>
      obtain ⟨k, rfl, hk1, hk2, hS, hne⟩ := hrel
      have hcw : ∀ t, t < n → wr.cell? ⟨g, 0 + t, none⟩ = some (.int .u64 (L t)) := fun t ht => by rw [← hd0.out t ht]; exact hS.cell ht
      have hfw : ∀ t, t < n → wr.frozen? ⟨g, 0 + t, none⟩ = false := fun t ht => hS.free _
      have HS := Hidden.mk hS
      have HNE := Hidden.mk hne
      clear hS hne
      by_cases hkn : k < n
      · by_cases heq : L k = L (k - 1)
        · have c1 : wr.cell? ⟨g, k, none⟩ = some (.int .u64 (L k)) := by have := hcw k hkn; rwa [Nat.zero_add] at this
          have c2 : wr.cell? ⟨g, k - 1, none⟩ = some (.int .u64 (L (k - 1))) := by have := hcw (k - 1) (by omega); rwa [Nat.zero_add] at this
          have hbq : (L k == L (k - 1)) = true := by simp [heq]
          have HEQ := Hidden.mk heq
          clear hcw hfw heq
          go_wp2_with fail
          go_quiet (fail)
          go_wp2_with fail
          have hk0 : (cpt l k).length = k ∧ cpt l (k + 1) = l.take k := by
            have e1 : cpt l k = l.take k := cpt_take k (by rw [HN.out]; omega) (fun i h1 h2 => by rw [← HL.out, ← HL.out]; exact HNE.out i h1 h2)
            refine ⟨by rw [e1, List.length_take, HN.out]; omega, ?_⟩
            rw [cpt_old hk1 (by rw [← HL.out, ← HL.out]; exact HEQ.out), e1]
          have HK0 := Hidden.mk hk0
          clear hk0
          go_loopw [3, 5] (fun vk vj wr => ∃ (k' j : Nat) (dk : Array Int), vk = .int .i64 k' ∧ vj = .int .i64 j ∧ 1 ≤ j ∧ k + j ≤ n ∧ 1 ≤ k' ∧ k' + 1 ≤ k + j ∧ SR .u64 22 cap g 0 n w wr dk ∧ (cpt l (k + j)).length = k' ∧ (∀ t, t < k' → dk[t]! = (cpt l (k + j)).getD t 0) ∧ (∀ t, k + j ≤ t + 1 → t < n → dk[t]! = L t)) (fun _ vj _ => n - (intOf vj).toNat)
          case atStart =>
            refine ⟨k, 1, l.toArray, rfl, rfl, by omega, by omega, by omega, by omega, HS.out.drewN _, ?_, fun t ht => ?_, fun t h1 h2 => hd0.out t h2⟩
            · rw [HK0.out.2, List.length_take, HN.out]; omega
            · rw [HK0.out.2, hd0.out t (by omega), HL.out]
              simp [List.getD_eq_getElem?_getD, List.getElem?_take_of_lt ht]
          case round =>
            obtain ⟨k2, j, dk, rfl, rfl, hj1, hj2, hk3, hk4, hS, hlen, hpre, hpost⟩ := hrel
            have HS := Hidden.mk hS
            have HLEN := Hidden.mk hlen
            have HPRE := Hidden.mk hpre
            have HPOST := Hidden.mk hpost
            clear hS hlen hpre hpost
            by_cases hjn : k + j < n
            · have c1 : wr.cell? ⟨g, k + j, none⟩ = some (.int .u64 (L (k + j))) := by
                have := HS.out.cell (t := k + j) hjn
                rwa [Nat.zero_add, HPOST.out (k + j) (by omega) hjn] at this
              have c2 : wr.cell? ⟨g, k + (j - 1), none⟩ = some (.int .u64 (L (k + (j - 1)))) := by
                have := HS.out.cell (t := k + (j - 1)) (by omega)
                rwa [Nat.zero_add, HPOST.out (k + (j - 1)) (by omega) (by omega)] at this
              have c3 : wr.cell? ⟨g, k2, none⟩ = some (.int .u64 dk[k2]!) := by
                have := HS.out.cell (t := k2) (by omega)
                rwa [Nat.zero_add] at this
              have f3 : wr.frozen? ⟨g, k2, none⟩ = false := HS.out.free _
              generalize dk[k2]! = old at c3
              have hjz : (j : Int) < (n : Int) - (k : Int) := by omega
              have hgd : L (k + j) = l.getD (k + j) 0 := HL.out _
              have hgd1 : L (k + (j - 1)) = l.getD (k + j - 1) 0 := by rw [HL.out]; congr 1; omega
              have HGD := Hidden.mk (And.intro hgd hgd1)
              clear hgd hgd1
              by_cases heq : L (k + j) = L (k + (j - 1))
              · have hbq : (L (k + j) != L (k + (j - 1))) = false := by simp [heq]
                have e := Hidden.mk (cpt_old (l := l) (j := k + j) (by omega) (by rw [← HGD.out.1, ← HGD.out.2]; exact heq))
                clear heq
                go_wp2_with fail
                go_quiet (fail)
                go_wp2_with fail
                go_roundw
                case rel => exact ⟨k2, j + 1, dk, rfl, by go_num, by omega, by omega, hk3, by omega, HS.out.drewN _, by rw [← Nat.add_assoc, e.out]; exact HLEN.out, fun t ht => by rw [← Nat.add_assoc, e.out]; exact HPRE.out t ht, fun t h1 h2 => HPOST.out t (by omega) h2⟩
                case measure => simp [intOf]; omega
              · have hbq : (L (k + j) != L (k + (j - 1))) = true := by simp [heq]
                have e := Hidden.mk (cpt_new (l := l) (j := k + j) (.inr (by rw [← HGD.out.1, ← HGD.out.2]; exact heq)))
                clear heq
                go_wp2_with fail
                go_quiet (fail)
                go_wp2_with fail
                go_roundw
                case rel =>
                  have hS2 := (HS.out.drewN nq).set (i := k2) (by omega) (L (k + j))
                  rw [Nat.zero_add] at hS2
                  have hz := HS.out.size
                  refine ⟨k2 + 1, j + 1, _, by go_num, by go_num, by omega, by omega, by omega, by omega, hS2, ?_, fun t ht => ?_, fun t h1 h2 => ?_⟩
                  · rw [← Nat.add_assoc, e.out, List.length_append, HLEN.out]; rfl
                  · rw [← Nat.add_assoc, e.out]
                    rcases Nat.lt_or_ge t k2 with h1 | h1
                    · rw [Sort.getElem!_set_other _ _ _ _ (by omega), HPRE.out t h1]
                      simp [List.getD_eq_getElem?_getD, List.getElem?_append_left (show t < (cpt l (k + j)).length by rw [HLEN.out]; exact h1)]
                    · have : t = k2 := by omega
                      subst this
                      rw [Sort.getElem!_set_same _ _ _ (by omega), HGD.out.1]
                      simp [List.getD_eq_getElem?_getD, ← HLEN.out]
                  · rw [Sort.getElem!_set_other _ _ _ _ (by omega)]
                    exact HPOST.out t (by omega) h2
                case measure => simp [intOf]; omega
            · have hjz : ¬ (j : Int) < (n : Int) - (k : Int) := by omega
              have hkn2 : k2 < n := by omega
              go_wp2_with (refine wpList_clear_part rfl (.tmp 56) 23 rfl Try.underlying23 zero64 HS.out hkn2 k1 rfl ?_; intro w5 hS5; have HS5 := Hidden.mk hS5; clear hS5)
              go_ret
              have hkj : k + j = l.length := by rw [HN.out]; omega
              have e : (dk.extract 0 k2).toList = cpc l := by
                unfold cpc
                rw [← hkj]
                have hz := HS.out.size
                apply List.ext_getElem?
                intro t
                by_cases ht : t < k2
                · have h1 := HPRE.out t ht
                  have h2 : (cpt l (k + j))[t]? = some ((cpt l (k + j)).getD t 0) := by
                    rw [List.getD_eq_getElem?_getD, List.getElem?_eq_getElem (by rw [HLEN.out]; exact ht)]; rfl
                  rw [h2, ← h1]
                  have : t < dk.size := by omega
                  simp [this, ht]
                · rw [List.getElem?_eq_none (by simp; omega), List.getElem?_eq_none (by rw [HLEN.out]; omega)]
              have e2 : (cpc l).length = k2 := by unfold cpc; rw [← hkj]; exact HLEN.out
              refine ⟨_, rfl, ?_, by simp [rb, Value.ownBlock], by rw [H.out.2]; exact HS5.out.mod⟩
              rw [e2, ← e]
              exact SR.to_row HS5.out (Row.cut H.out.1 (by omega))
        · have hbq : (L k == L (k - 1)) = false := by simp [heq]
          have c1 : wr.cell? ⟨g, k, none⟩ = some (.int .u64 (L k)) := by have := hcw k hkn; rwa [Nat.zero_add] at this
          have c2 : wr.cell? ⟨g, k - 1, none⟩ = some (.int .u64 (L (k - 1))) := by have := hcw (k - 1) (by omega); rwa [Nat.zero_add] at this
          have HEQ := Hidden.mk heq
          clear hcw hfw heq
          go_wp2_with fail
          go_quiet (fail)
          go_wp2_with fail
          go_roundw
          case rel => exact ⟨k + 1, by go_num, by omega, by omega, HS.out.drewN _, fun i h1 h2 => by rcases Nat.lt_or_ge i k with h3 | h3; exact HNE.out i h1 h3; (have : i = k := by omega); subst this; exact HEQ.out⟩
          case measure => simp [intOf]; omega
      · go_wp2_with fail
        go_ret
        have e : cpc l = l := by
          unfold cpc
          rw [cpt_take _ (Nat.le_refl _) (fun i h1 h2 => by rw [← HL.out, ← HL.out]; exact HNE.out i h1 (by have := HN.out; omega)), List.take_length]
        refine ⟨_, rfl, ?_, rfl, by rw [H.out.2]; exact HS.out.mod⟩
        rw [e, HN.out]
        exact SR.to_row HS.out H.out.1
end Go.Proofs.Ytfioekkegihkoaa

/- slices.BinarySearch at uint64. -/
namespace Go.Proofs.Ytfioekkegihkoaa
open Go.RowKit
set_option linter.unusedVariables false
set_option linter.unusedSimpArgs false

theorem snan64 (z : Int) (w : World) : Calls Try.prog 139 #[.int .u64 z] w fun e w' => e = .returned (.bool false) ∧ w' = w := by
  go_enter Try.func139, Try.ntmps139
  go_wp2
  go_ret
  exact ⟨by simp, rfl⟩
set_option maxHeartbeats 1000000 in
theorem bin64 {w : World} {v : Value} {l : List Int} (t : Int) (h : ISl .u64 w v l) (hl : l.length ≤ 1000000000) (hs : l.Pairwise (· ≤ ·)) :
    Calls Try.prog 105 #[v, .int .u64 t] w fun e w' => e = .returned (.tuple #[.int .i64 (rk l t), .bool (decide (t ∈ l))]) ∧ w = w' := by
  obtain ⟨a, cap, rfl, k1, k2⟩ := h.slice_
  have hG : ∃ L : Nat → Int, ∀ t, L t = l.getD t 0 := ⟨fun t => l.getD t 0, fun _ => rfl⟩
  obtain ⟨L, hL⟩ := hG
  have hc : Hidden (∀ p, p < l.length → ∃ b off, a = some ⟨b, off, none⟩ ∧ w.cell? ⟨b, off + p, none⟩ = some (.int .u64 (L p))) := ⟨fun p hp => by
    obtain ⟨b, off, x, rfl, _, hx, hcell⟩ := h.get hp
    refine ⟨b, off, rfl, ?_⟩
    rw [hcell, hL, List.getD_eq_getElem?_getD, hx]; rfl⟩
  have HL := Hidden.mk hL
  have HS := Hidden.mk hs
  clear h hL hs
  generalize hn : l.length = n at *
  have HN := Hidden.mk hn
  clear hn
  go_enter Try.func105, Try.ntmps105
  go_wp2_with fail
  go_loop [7, 8] (fun vi vj => ∃ i j : Nat, vi = .int .i64 i ∧ vj = .int .i64 j ∧ i ≤ j ∧ j ≤ n ∧ (∀ p, p < i → L p < t) ∧ (∀ p, j ≤ p → p < n → t ≤ L p)) (fun vi vj => (intOf vj - intOf vi).toNat)
  case atStart => exact ⟨0, n, rfl, rfl, by omega, by omega, by omega, by omega⟩
  case round =>
    obtain ⟨i, j, rfl, rfl, hij, hjn, h1, h2⟩ := hrel
    have H1 := Hidden.mk h1
    have H2 := Hidden.mk h2
    clear h1 h2
    by_cases hlt : i < j
    · obtain ⟨b, off, rfl, hcell⟩ := hc.out ((i + j) / 2) (by omega)
      go_wp2_with (go_at_call 133; refine (less64 _ _ _).mono ?_; rintro e w' ⟨rfl, rfl⟩)
      · have hl1 : Sort.ltInt (L ((i + j) / 2)) t = true := by assumption
        have hl2 : L ((i + j) / 2) < t := by simpa [Sort.ltInt] using hl1
        go_round
        case rel =>
          refine ⟨(i + j) / 2 + 1, j, by go_num, rfl, by omega, hjn, fun p hp => ?_, H2.out⟩
          have h3 : L p ≤ L ((i + j) / 2) := by
            rw [HL.out, HL.out]
            have hn := HN.out
            have e1 : l.getD p 0 = l[p]'(by omega) := by simp [List.getD_eq_getElem?_getD, List.getElem?_eq_getElem (show p < l.length by omega)]
            have e2 : l.getD ((i + j) / 2) 0 = l[(i + j) / 2]'(by omega) := by simp [List.getD_eq_getElem?_getD, List.getElem?_eq_getElem (show (i + j) / 2 < l.length by omega)]
            rw [e1, e2]
            rcases Nat.lt_or_ge p ((i + j) / 2) with h4 | h4
            · exact List.pairwise_iff_getElem.1 HS.out p _ (by omega) (by omega) h4
            · have : p = (i + j) / 2 := by omega
              subst this; exact Int.le_refl _
          omega
        case measure => simp [intOf]; omega
      · have hl1 : Sort.ltInt (L ((i + j) / 2)) t = false := by assumption
        have hl2 : ¬ L ((i + j) / 2) < t := by simpa [Sort.ltInt] using hl1
        go_round
        case rel =>
          refine ⟨i, (i + j) / 2, rfl, (by first | rfl | go_num), by omega, by omega, H1.out, fun p hp hpn => ?_⟩
          have h3 : L ((i + j) / 2) ≤ L p := by
            rw [HL.out, HL.out]
            have hn := HN.out
            have e1 : l.getD p 0 = l[p]'(by omega) := by simp [List.getD_eq_getElem?_getD, List.getElem?_eq_getElem (show p < l.length by omega)]
            have e2 : l.getD ((i + j) / 2) 0 = l[(i + j) / 2]'(by omega) := by simp [List.getD_eq_getElem?_getD, List.getElem?_eq_getElem (show (i + j) / 2 < l.length by omega)]
            rw [e1, e2]
            rcases Nat.lt_or_ge ((i + j) / 2) p with h4 | h4
            · exact List.pairwise_iff_getElem.1 HS.out _ p (by omega) (by omega) h4
            · have : p = (i + j) / 2 := by omega
              subst this; exact Int.le_refl _
          omega
        case measure => simp [intOf]; omega
    · have hij2 : i = j := by omega
      have hr : Hidden (rk l t = i) := ⟨rk_at (by rw [HN.out]; omega) (fun p hp => by rw [← HL.out]; exact H1.out p hp) (fun p hp hpn => by rw [← HL.out]; exact H2.out p (by omega) (by rw [← HN.out]; exact hpn))⟩
      have hm : Hidden (decide (t ∈ l) = decide (i < n ∧ L i = t)) := ⟨by
        have := mem_rk (t := t) HS.out
        rw [hr.out, HN.out, ← HL.out] at this
        exact decide_eq_decide.2 this⟩
      by_cases hin : i < n
      · have hinz : (i : Int) < (n : Int) := by omega
        have hind : decide (i < n) = true := decide_eq_true hin
        obtain ⟨b, off, rfl, hcell⟩ := hc.out i hin
        clear hij2
        by_cases heq : L i = t
        · have hbq : (L i == t) = true := by simp [heq]
          have HE : Hidden (decide (t ∈ l) = true) := ⟨by rw [hm.out]; simp [hin, heq]⟩
          clear heq
          go_wp2_with (go_at_call 139; refine (snan64 _ _).mono ?_; rintro e w' ⟨rfl, rfl⟩)
          go_ret2
          exact ⟨by rw [hr.out, HE.out]; rfl, rfl⟩
        · have hbq : (L i == t) = false := by simp [heq]
          have HE : Hidden (decide (t ∈ l) = false) := ⟨by rw [hm.out]; simp [heq]⟩
          clear heq
          go_wp2_with (go_at_call 139; refine (snan64 _ _).mono ?_; rintro e w' ⟨rfl, rfl⟩)
          go_ret2
          exact ⟨by rw [hr.out, HE.out]; rfl, rfl⟩
      · have hinz : decide ((i : Int) < (n : Int)) = false := decide_eq_false (by omega)
        have hind : decide (i < n) = false := decide_eq_false hin
        have HE : Hidden (decide (t ∈ l) = false) := ⟨by rw [hm.out]; simp [hin]⟩
        clear hij2
        go_wp2_with (go_at_call 139; refine (snan64 _ _).mono ?_; rintro e w' ⟨rfl, rfl⟩)
        go_ret2
        exact ⟨by rw [hr.out, HE.out]; rfl, rfl⟩
end Go.Proofs.Ytfioekkegihkoaa

/- slices.Grow (of nil), Concat at uint64. -/
namespace Go.Proofs.Ytfioekkegihkoaa
open Go.RowKit
set_option linter.unusedVariables false
set_option linter.unusedSimpArgs false

end Go.Proofs.Ytfioekkegihkoaa
