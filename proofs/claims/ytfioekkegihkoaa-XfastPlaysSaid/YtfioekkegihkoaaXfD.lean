/- xfast: Delete. -/
import Derived.Test.YtfioekkegihkoaaGXfS
namespace Go.Proofs.Ytfioekkegihkoaa
open Go.RowKit
set_option linter.unusedVariables false
set_option linter.unusedSimpArgs false
/-- While a key's beginnings are taken out: bits below n are done. -/
def DelSt (w : World) (F0 : List Nat) (xb mb limit : Nat) (A B : CL) (k : Int) (a : Nat) (ll n : Nat) (wr : World) : Prop :=
  ∃ tb cb b0 FT FC pr l m c, XfIn wr xb tb cb mb b0 limit FT FC pr false l (A ++ (a, k) :: B) ∧ XTP (A ++ (a, k) :: B) (A ++ B) n l ∧ MeterAt wr mb m ∧ m.taken = (c : Nat) ∧ c ≤ 20 + n ∧ l.length ≤ ll ∧
    Fresh w F0 (xb :: (FT ++ FC)) ∧ Mod (mb :: F0) w wr
theorem fresh_tab {w W : World} {F0 FT FT' FC : List Nat} {xb mb : Nat} (hF0 : Fresh w F0 (xb :: (FT ++ FC))) (hM0 : Mod (mb :: F0) w W) (k3 : ∀ q ∈ FT', q ∈ FT ∨ W.heap.size ≤ q) : Fresh w F0 (xb :: (FT' ++ FC)) := fun q hq => by
  simp only [List.mem_cons, List.mem_append] at hq
  rcases hq with rfl | hq | hq
  · exact hF0 q (by simp)
  · rcases k3 q hq with h1 | h1
    · exact hF0 q (by simp [h1])
    · exact .inr (Nat.le_trans hM0.size h1)
  · exact hF0 q (by simp [hq])
theorem del_mod {w W w7 : World} {F0 FT FC : List Nat} {xb mb : Nat} (h : Mod (mb :: F0) w W) (hF : Fresh w F0 (xb :: (FT ++ FC))) (h7 : Mod FT W w7) : Mod (mb :: F0) w w7 := h.trans h7 (fun q hq => by
  rcases hF q (by simp [hq]) with h1 | h1
  · exact .inl (by simp [h1])
  · exact .inr h1)
theorem del_put {w W w6 : World} {F0 : List Nat} {xb tb cb mb b0 b1 limit : Nat} {FT FT' FC : List Nat} {pr pr1 : Int} {l : List (HK × Int)} {A B : CL} {k : Int} {a ll n c : Nat} {m : Mt} {s s0 : Int × Int} (h : XfIn W xb tb cb mb b0 limit FT FC pr false l (A ++ (a, k) :: B)) (ht : XTP (A ++ (a, k) :: B) (A ++ B) n l) (hn : n ≤ 64)
    (h0 : spn (A ++ (a, k) :: B) n (pfx k n) = some s0) (hs : spn (A ++ B) n (pfx k n) = some s) (hm : MeterAt W mb m) (hmT : mb ∉ FT) (hc : m.taken = (c : Nat)) (hc2 : c ≤ 20 + (n + 1)) (hl : l.length ≤ ll) (hF0 : Fresh w F0 (xb :: (FT ++ FC))) (hM0 : Mod (mb :: F0) w W)
    (k1 : TabAt w6 tb mb FT' b1 pr1 (putL l ((n : Int), pfx k n) (packS s))) (k2 : Mod FT W w6) (k3 : ∀ q ∈ FT', q ∈ FT ∨ W.heap.size ≤ q) : DelSt w F0 xb mb limit A B k a ll (n + 1) w6 := by
  refine ⟨tb, cb, b1, FT', FC, pr1, _, m, c, h.tabbed k1 k2 k3, ht.put hn _ s hs (fun p hp => (spn_other (Ne.symm hp)).symm), hm.mod k2 hmT, hc, hc2, ?_, fresh_tab hF0 hM0 k3, del_mod hM0 hF0 k2⟩
  rw [putX_len h.tab.nodup, ht.get hn, h0]
  simpa using hl
theorem del_drop {w W w6 : World} {F0 : List Nat} {xb tb cb mb b0 b1 limit : Nat} {FT FT' FC : List Nat} {pr pr1 : Int} {l : List (HK × Int)} {A B : CL} {k : Int} {a ll n c : Nat} {m : Mt} (h : XfIn W xb tb cb mb b0 limit FT FC pr false l (A ++ (a, k) :: B)) (ht : XTP (A ++ (a, k) :: B) (A ++ B) n l) (hn : n ≤ 64)
    (hs : spn (A ++ B) n (pfx k n) = none) (hm : MeterAt W mb m) (hmT : mb ∉ FT) (hc : m.taken = (c : Nat)) (hc2 : c ≤ 20 + (n + 1)) (hl : l.length ≤ ll) (hF0 : Fresh w F0 (xb :: (FT ++ FC))) (hM0 : Mod (mb :: F0) w W)
    (k1 : TabAt w6 tb mb FT' b1 pr1 (dropL l ((n : Int), pfx k n))) (k2 : Mod FT W w6) (k3 : ∀ q ∈ FT', q ∈ FT ∨ W.heap.size ≤ q) : DelSt w F0 xb mb limit A B k a ll (n + 1) w6 := by
  refine ⟨tb, cb, b1, FT', FC, pr1, _, m, c, h.tabbed k1 k2 k3, ht.drop hn _ hs (fun p hp => (spn_other (Ne.symm hp)).symm), hm.mod k2 hmT, hc, hc2, ?_, fresh_tab hF0 hM0 k3, del_mod hM0 hF0 k2⟩
  have := dropX_len (l := l) (k := ((n : Int), pfx k n)) h.tab.nodup
  omega
theorem pfx64 (x : Int) : pfx x 64 = x := by simp [pfx]
theorem spn_whole {A B : CL} {k : Int} {a : Nat} (hA : ∀ e ∈ A, e.2 < k) (hB : ∀ e ∈ B, k < e.2) : spn (A ++ (a, k) :: B) 64 (pfx k 64) = some ((a : Int), (a : Int)) := by
  have e1 : msk A 64 (pfx k 64) = [] := by
    unfold msk
    rw [List.filter_eq_nil_iff]
    intro e he; have := hA e he; rw [pfx64, pfx64]; simp; omega
  have e2 : msk B 64 (pfx k 64) = [] := by
    unfold msk
    rw [List.filter_eq_nil_iff]
    intro e he; have := hB e he; rw [pfx64, pfx64]; simp; omega
  rw [spn_some (by rw [msk_app, msk_yes rfl]; simp), msk_app, msk_yes rfl, e1, e2]; rfl
theorem keys_del {A B : CL} {k : Int} {a : Nat} (hA : ∀ e ∈ A, e.2 < k) (hB : ∀ e ∈ B, k < e.2) : keysC (A ++ B) = delL (keysC (A ++ (a, k) :: B)) k := by
  unfold delL
  rw [rk_split hA (B := (a, k) :: B) (fun e he => by
    rcases List.mem_cons.1 he with rfl | he
    · exact Int.le_refl _
    · exact Int.le_of_lt (hB e he)), keysC_app A ((a, k) :: B), ← keysC_len A, List.take_left, show (keysC A).length + 1 = (keysC A ++ [k]).length from by simp, show keysC A ++ keysC ((a, k) :: B) = (keysC A ++ [k]) ++ keysC B from by simp [keysC], List.drop_left, keysC_app]
theorem up_del {A B : CL} {k : Int} {a : Nat} (h : (A ++ (a, k) :: B).Pairwise (fun e f => e.2 < f.2)) : (A ++ B).Pairwise (fun e f => e.2 < f.2) := h.sublist (by simp)
theorem k64_del {A B : CL} {k : Int} {a : Nat} (h : ∀ e ∈ A ++ (a, k) :: B, 0 ≤ e.2 ∧ e.2 < 18446744073709551616) : ∀ e ∈ A ++ B, 0 ≤ e.2 ∧ e.2 < 18446744073709551616 := fun e he => h e (by
  rcases List.mem_append.1 he with he | he <;> simp [he])
theorem XL.del {A B : CL} {k : Int} {a : Nat} (h : XL (A ++ (a, k) :: B)) : XL (A ++ B) := ⟨up_del h.up, h.nd.sublist (by simp), k64_del h.k64, fun e he => h.pl e (by
  rcases List.mem_append.1 he with he | he <;> simp [he])⟩
/-- What Delete answers and leaves. -/
def DelPost (w : World) (xb mb : Nat) (F : List Nat) (limit : Nat) (L : CL) (k : Int) (e : Ending) (w' : World) : Prop :=
  ∃ (er : Int) (L' : CL) (F' : List Nat) (m : Mt) (c : Nat), e = .returned (.int .i64 er) ∧ XfAt w' xb mb F' limit L' ∧ mb ∉ F' ∧ MeterAt w' mb m ∧ m.taken = (c : Nat) ∧ c ≤ 1000 ∧ Mod (mb :: F) w w' ∧ Fresh w F F' ∧
    ((k ∉ keysC L ∧ er = 3 ∧ L' = L) ∨ (k ∈ keysC L ∧ er = 0 ∧ keysC L' = delL (keysC L) k))
set_option maxHeartbeats 8000000 in
set_option maxRecDepth 100000 in
theorem xf_delete {w : World} {xb mb limit : Nat} {F : List Nat} {L : CL} {m : Mt} (k : Int) (hk : 0 ≤ k ∧ k < 18446744073709551616) (h : XfAt w xb mb F limit L) (hm : MeterAt w mb m) (hmb : mb ∉ F) :
    Calls Try.prog 32 #[.pointer (some ⟨xb, 0, none⟩), .int .u64 k] w (DelPost w xb mb F limit L k) := by
  obtain ⟨tb, cb, b0, FT, FC, pr, l, rfl, hI, hT, hU, hK, hN⟩ := h
  have hx := hI.xl hU hK
  have HH := Hidden.mk (xf_has k hk hI hx hT hm hmb)
  have HX := Hidden.mk (And.intro hx (And.intro hT (And.intro hU (And.intro hK (And.intro hN (And.intro hk (And.intro hmb (And.intro hm.lt (And.intro hI.chn.len.2 hI.tab.nodup)))))))))
  clear hI hT hU hK hN hm hmb hk hx
  go_enter Try.func32, Try.ntmps32
  go_wp2_with fail
  refine HH.out.mono ?_
  rintro e w1 ⟨rfl, hr1⟩
  by_cases hmem : k ∉ keysC L
  · have HP := Hidden.mk (XfAt.of_rd hr1 HX.out.2.1 HX.out.2.2.1 HX.out.2.2.2.1 HX.out.2.2.2.2.1)
    have HM := Hidden.mk hmem
    rw [decide_eq_false hmem]
    clear hmem hr1 HH
    go_wp2_with fail
    go_ret
    obtain ⟨h1, ⟨m', c, h2, h3, h4⟩, h5⟩ := HP.out
    exact ⟨3, L, _, m', c, rfl, h1, HX.out.2.2.2.2.2.2.1, h2, h3, by omega, h5, fun q hq => .inl hq, .inl ⟨HM.out, rfl, rfl⟩⟩
  have hmem : k ∈ keysC L := Classical.not_not.1 hmem
  rw [decide_eq_true hmem]
  obtain ⟨⟨a, k'⟩, he, hek⟩ := keysC_mem.1 hmem
  obtain rfl : k' = k := hek
  obtain ⟨A, B, rfl⟩ := List.append_of_mem he
  have hA : ∀ e ∈ A, e.2 < k' := fun e he => (HX.out.1.apart he (show (a, k') ∈ (a, k') :: B by simp)).2
  have hB : ∀ e ∈ B, k' < e.2 := fun e he => by
    have hx2 : XL ((A ++ [(a, k')]) ++ B) := by rw [List.append_assoc]; exact HX.out.1
    exact (hx2.apart (show (a, k') ∈ A ++ [(a, k')] by simp) he).2
  obtain ⟨pr1, m1, c1, hI1, hm1, ht1, hc1, hM1⟩ := hr1
  have hmT : mb ∉ FT := fun hh => HX.out.2.2.2.2.2.2.1 (by simp [hh])
  have hmC : mb ∉ FC := fun hh => HX.out.2.2.2.2.2.2.1 (by simp [hh])
  have HF := Hidden.mk (xf_find (s := some ((a : Int), (a : Int))) k' 64 HX.out.2.2.2.2.2.1 (by omega) hI1.blk hI1.tab hm1 hmT (by rw [HX.out.2.1.get (by omega), spn_whole hA hB]) (fun q hq => spn_bnd HX.out.1 ((spn_whole hA hB).trans hq)))
  have HAB := Hidden.mk (And.intro hA (And.intro hB hmem))
  have H1 := Hidden.mk (And.intro hI1 (And.intro ht1 (And.intro hmT (And.intro hmC hM1))))
  have hl1 := hI1.blk.lt
  clear hmem hA hB he hI1 hm1 ht1 hmT hmC hM1 HH
  go_wp2_with fail
  refine HF.out.mono ?_
  rintro e w2 ⟨rfl, pr2, ht2, hm2, hM2⟩
  simp only [Option.getD_some, Option.isSome_some]
  have hA2 := (Mod.refl [] w2).alloc (.cells #[.int .i64 (a : Int), .int .i64 (a : Int)] 89)
  have hI2 := (H1.out.1.looked (m' := m1) HX.out.2.2.2.2.2.2.1 ht2 hM2).mod hA2 (by simp)
  have c22 : (w2.alloc (.cells #[.int .i64 (a : Int), .int .i64 (a : Int)] 89)).cell? ⟨xb, 2, none⟩ = some (.pointer (some ⟨cb, 0, none⟩)) := hI2.blk.cell 2
  have hl2 := hI2.blk.lt
  have HPV := Hidden.mk (fun W mm (hW : Mod [mb] (w2.alloc (.cells #[.int .i64 (a : Int), .int .i64 (a : Int)] 89)) W) (hmm : MeterAt W mb mm) => chain_prev_yes (hI2.chn.mod hW (fun q hq => by rw [List.mem_singleton.1 hq]; exact H1.out.2.2.2.1)) hmm H1.out.2.2.2.1)
  have HNX := Hidden.mk (fun W mm (hW : Mod [mb] (w2.alloc (.cells #[.int .i64 (a : Int), .int .i64 (a : Int)] 89)) W) (hmm : MeterAt W mb mm) => chain_next_yes (hI2.chn.mod hW (fun q hq => by rw [List.mem_singleton.1 hq]; exact H1.out.2.2.2.1)) hmm H1.out.2.2.2.1)
  obtain ⟨P, hP⟩ : ∃ P, lsC A (-1) = P := ⟨_, rfl⟩
  obtain ⟨Q, hQ⟩ : ∃ Q, hdC B (-1) = Q := ⟨_, rfl⟩
  rw [hP] at HPV
  rw [hQ] at HNX
  have HC2 : Hidden (∀ W, Mod [mb] (w2.alloc (.cells #[.int .i64 (a : Int), .int .i64 (a : Int)] 89)) W → W.cell? ⟨xb, 2, none⟩ = some (.pointer (some ⟨cb, 0, none⟩)) ∧ xb < W.heap.size) := ⟨fun W hW => ⟨(hI2.read HX.out.2.2.2.2.2.2.1 hW).blk.cell 2, (hI2.read HX.out.2.2.2.2.2.2.1 hW).blk.lt⟩⟩
  have HPQ := Hidden.mk (And.intro hP hQ)
  have H2 := Hidden.mk (And.intro hI2 (And.intro (hm2.mod hA2 (by simp)) (And.intro (Mt.call_taken H1.out.2.1 (by omega)) ((H1.out.2.2.2.2.trans hM2 (fun q hq => .inl hq)).trans hA2 (by simp)))))
  clear hP hQ hI2 ht2 hm2 hM2 hA2 HF
  go_wp2_with fail
  go_cut [8, 9] from 29 to 40 (fun p q wx => p = .int .i64 P ∧ q = .int .i64 Q ∧ (∃ m9 c9, MeterAt wx mb m9 ∧ m9.taken = ((c9 : Nat) : Int) ∧ c9 ≤ 5) ∧ Mod [mb] (w2.alloc (.cells #[.int .i64 (a : Int), .int .i64 (a : Int)] 89)) wx)
  case first =>
    go_region_with (first | (go_at_call 60; refine (HPV.out _ _ (Mod.refl [mb] _).drew H2.out.2.1.drew).mono ?_; rintro e w3 ⟨rfl, hm3, hM3⟩; have H3 := Hidden.mk (And.intro hm3 ((Mod.refl [mb] _).drew.trans hM3 (fun q hq => .inl hq))); have c32 := (HC2.out _ H3.out.2).1; have c3l := (HC2.out _ H3.out.2).2; clear hm3 hM3) | (go_at_call 61; refine (HNX.out _ _ H3.out.2 H3.out.1).mono ?_; rintro e w4 ⟨rfl, hm4, hM4⟩; have H4 := Hidden.mk (And.intro hm4 (H3.out.2.trans hM4 (fun q hq => .inl hq))); have c42 := (HC2.out _ H4.out.2).1; have c4l := (HC2.out _ H4.out.2).2; clear hm4 hM4))
    all_goals (go_wp2_with fail; go_meet; exact ⟨rfl, rfl, ⟨_, _, H4.out.1, Mt.read_taken (Mt.read_taken H2.out.2.2.1 (by omega)) (by omega), by omega⟩, H4.out.2⟩)
  case rest =>
    obtain ⟨rfl, rfl, ⟨m9, c9, hm9, ht9, hc9⟩, hM9⟩ := hcut
    have HS0 : Hidden (DelSt w (xb :: (FT ++ FC)) xb mb limit A B k' a l.length 0 wc) := ⟨tb, cb, b0, FT, FC, pr2, l, m9, c9, H2.out.1.read HX.out.2.2.2.2.2.2.1 hM9, XTP.start HX.out.2.1, hm9, ht9, by omega, Nat.le_refl _, fun q hq => .inl hq, (H2.out.2.2.2.mono (fun q hq => .inl (by
      rcases List.mem_cons.1 hq with rfl | hq
      · simp
      · simp [hq]))).trans hM9 (fun q hq => .inl (by rw [List.mem_singleton.1 hq]; simp))⟩
    have HNB : Hidden (mb ∉ xb :: (FT ++ FC) ∧ mb < w.heap.size) := ⟨⟨HX.out.2.2.2.2.2.2.1, HX.out.2.2.2.2.2.2.2.1⟩⟩
    have hHK := HX.out.2.2.2.2.2.1
    have HXL : Hidden (XL (A ++ B)) := ⟨XL.del HX.out.1⟩
    have hll : l.length ≤ 1048576 := by have := HX.out.2.2.2.2.1; have := HX.out.2.2.2.2.2.2.2.2.1; omega
    clear hm9 ht9 hc9 hM9 H1 H2 HC2 HPV HNX c22 hl2
    go_wp2_with fail
    go_loopw [10] (fun v10 wr => ∃ n : Nat, v10 = .int .i64 n ∧ n ≤ 65 ∧ DelSt w (xb :: (FT ++ FC)) xb mb limit A B k' a l.length n wr) (fun v10 _ => (65 - intOf v10).toNat)
    case atStart => exact ⟨0, rfl, by omega, HS0.out⟩
    case round =>
      obtain ⟨n, rfl, hn, hst⟩ := hrel
      clear HS0
      by_cases hlt : (n : Int) ≤ 64
      · have hltd : decide ((n : Int) ≤ 64) = true := decide_eq_true hlt
        have hn64 : n ≤ 64 := by omega
        have hw1 : IntKind.i64.wrap ((n : Int) + 1) = n + 1 := IntWalk.i64_in _ (by omega)
        obtain ⟨tb9, cb9, b9, FT9, FC9, pr9, l9, m9, c9, hI, hXT, hMt, htk, hcb, hln, hFr, hMo⟩ := hst
        have hm9 : mb ∉ xb :: (FT9 ++ FC9) := fresh_not hFr HNB.out.1 HNB.out.2
        have hm9T : mb ∉ FT9 := fun hh => hm9 (by simp [hh])
        obtain ⟨⟨x, y⟩, hsp, hdel, hxya⟩ := spn_del HX.out.1 n
        have hbn := spn_bnd HX.out.1 hsp
        have HF := Hidden.mk (xf_find (s := some (x, y)) k' n hHK hn64 hI.blk hI.tab hMt hm9T (by rw [hXT.get hn64 _, hsp]) (fun q hq => by injection hq with hq; subst hq; exact hbn))
        have HR := Hidden.mk (And.intro hI (And.intro hXT (And.intro htk (And.intro hcb (And.intro hm9 (And.intro hm9T (And.intro hln (And.intro hFr hMo))))))))
        have hx9 := hI.blk.lt
        have HSP := Hidden.mk hsp
        rw [HPQ.out.1, HPQ.out.2] at hdel
        simp only at hdel hbn hxya
        clear hI hXT hMt htk hcb hm9 hm9T hln hFr hMo hsp
        by_cases hxy : x = y
        · have HIN := Hidden.mk (hdel.trans (if_pos hxy))
          have hxb : (x == y) = true := by simp [hxy]
          clear hdel hxy hxya
          go_wp2_with fail
          refine HF.out.mono ?_
          rintro e w7 ⟨rfl, pr7, ht7, hm7, hM7⟩
          simp only [Option.getD_some, Option.isSome_some]
          have H7 := Hidden.mk (And.intro (HR.out.1.looked (m' := m9) HR.out.2.2.2.2.1 ht7 hM7) (And.intro hm7 hM7))
          have hx7 := H7.out.1.blk.lt
          have c71 : w7.cell? ⟨xb, 1, none⟩ = some (.pointer (some ⟨tb9, 0, none⟩)) := H7.out.1.blk.cell 1
          clear ht7 hm7 hM7 HF
          have hA7 := Hidden.mk ((Mod.refl [] w7).alloc (.cells #[.int .i64 x, .int .i64 y] 89))
          have KN : Hidden (∀ W, Mod [] (w7.alloc (.cells #[.int .i64 x, .int .i64 y] 89)) W → Blk W w7.heap.size 89 #[.int .i64 x, .int .i64 y]) := ⟨fun W hW => (Blk.new w7 _ _).mod hW (by simp)⟩
          have KX : Hidden (∀ W, Mod [] (w7.alloc (.cells #[.int .i64 x, .int .i64 y] 89)) W → W.cell? ⟨xb, 1, none⟩ = some (.pointer (some ⟨tb9, 0, none⟩))) := ⟨fun W hW => (H7.out.1.mod (hA7.out.trans hW (by simp)) (by simp)).blk.cell 1⟩
          have HPX := Hidden.mk (fun W => xf_prefix (w := W) k' n hHK hn64)
          have HPT := Hidden.mk (fun W (hW : Mod [] w7 W) => hash_drop ((n : Int), pfx k' n) (keyOK_pfx hHK hn64) (H7.out.1.tab.mod hW (by simp)))
          go_wp2_with fail
          go_region_with (first | (go_at_call 79; refine (HPX.out _).mono ?_; rintro e w8 ⟨rfl, hm8⟩; have H8 := Hidden.mk ((Mod.refl [] (w7.alloc (.cells #[.int .i64 x, .int .i64 y] 89))).drew.trans hm8 (by simp)); have c81 := KX.out _ H8.out; clear hm8) | (go_at_call 81; refine (HPT.out _ (hA7.out.trans H8.out (by simp))).mono ?_; rintro e w10 ⟨he, FT', b', pr', k1, k2, k3, -⟩; obtain ⟨g, hg⟩ : ∃ g, (lk l9 ((n : Int), pfx k' n)).isSome = g := ⟨_, rfl⟩; rw [hg] at he; subst he; clear hg; have H10 := Hidden.mk (And.intro k1 (And.intro ((hA7.out.trans H8.out (by simp)).trans' k2) (fun q hq => (k3 q hq).imp id (Nat.le_trans (hA7.out.trans H8.out (by simp)).size)))); clear k1 k2 k3))
          all_goals
            go_wp2_with fail
            go_roundw
            case rel => exact ⟨n + 1, rfl, by omega, del_drop H7.out.1 HR.out.2.1 hn64 HIN.out H7.out.2.1 HR.out.2.2.2.2.2.1 (Mt.call_taken HR.out.2.2.1 (by have := HR.out.2.2.2.1; omega)) (by have := HR.out.2.2.2.1; omega) HR.out.2.2.2.2.2.2.1 HR.out.2.2.2.2.2.2.2.1 (ins_mod HR.out.2.2.2.2.2.2.2.2 HR.out.2.2.2.2.2.2.2.1 H7.out.2.2) H10.out.1 H10.out.2.1 H10.out.2.2⟩
            case measure => simp [intOf]; omega
        have hxb : (x == y) = false := beq_eq_false_iff_ne.2 hxy
        rw [if_neg hxy] at hdel
        by_cases hxa : x = a
        · have HIN := Hidden.mk (show spn (A ++ B) n (pfx k' n) = some (Q, y) from by rw [hdel, if_pos hxa])
          have hab : (x == (a : Int)) = true := by simp [hxa]
          clear hdel hxy hxya hxa
          go_wp2_with fail
          refine HF.out.mono ?_
          rintro e w7 ⟨rfl, pr7, ht7, hm7, hM7⟩
          simp only [Option.getD_some, Option.isSome_some]
          have H7 := Hidden.mk (And.intro (HR.out.1.looked (m' := m9) HR.out.2.2.2.2.1 ht7 hM7) (And.intro hm7 hM7))
          have hx7 := H7.out.1.blk.lt
          have c71 : w7.cell? ⟨xb, 1, none⟩ = some (.pointer (some ⟨tb9, 0, none⟩)) := H7.out.1.blk.cell 1
          clear ht7 hm7 hM7 HF
          have hA7 := Hidden.mk ((Mod.refl [] w7).alloc (.cells #[.int .i64 Q, .int .i64 y] 89))
          have KN : Hidden (∀ W, Mod [] (w7.alloc (.cells #[.int .i64 Q, .int .i64 y] 89)) W → Blk W w7.heap.size 89 #[.int .i64 Q, .int .i64 y]) := ⟨fun W hW => (Blk.new w7 _ _).mod hW (by simp)⟩
          have KX : Hidden (∀ W, Mod [] (w7.alloc (.cells #[.int .i64 Q, .int .i64 y] 89)) W → W.cell? ⟨xb, 1, none⟩ = some (.pointer (some ⟨tb9, 0, none⟩))) := ⟨fun W hW => (H7.out.1.mod (hA7.out.trans hW (by simp)) (by simp)).blk.cell 1⟩
          have HPX := Hidden.mk (fun W => xf_prefix (w := W) k' n hHK hn64)
          have hbp := spn_bnd HXL.out HIN.out
          have HPK := Hidden.mk (fun W => xf_pack (w := W) Q y hbp.1 hbp.2)
          have HPT := Hidden.mk (fun W (hW : Mod [] w7 W) => hash_put ((n : Int), pfx k' n) (packS (Q, y)) (keyOK_pfx hHK hn64) (H7.out.1.tab.mod hW (by simp)) (by have := HR.out.2.2.2.2.2.2.1; omega))
          clear hbp
          go_wp2_with fail
          go_region_with (first | (go_at_call 79; refine (HPX.out _).mono ?_; rintro e w8 ⟨rfl, hm8⟩; have H8 := Hidden.mk ((Mod.refl [] (w7.alloc (.cells #[.int .i64 Q, .int .i64 y] 89))).drew.trans hm8 (by simp)); have d80 : w8.cell? ⟨w7.heap.size, 0, none⟩ = some (.int .i64 Q) := (KN.out _ H8.out).cell 0; have d81 : w8.cell? ⟨w7.heap.size, 1, none⟩ = some (.int .i64 y) := (KN.out _ H8.out).cell 1; have d8l := (KN.out _ H8.out).lt; have c81 := KX.out _ H8.out; clear hm8) | (go_at_call 80; refine (HPK.out _).mono ?_; rintro e w9 ⟨rfl, hm9⟩; have H9 := Hidden.mk (H8.out.trans hm9 (by simp)); have c91 := KX.out _ H9.out; clear hm9) | (go_at_call 78; refine (HPT.out _ (hA7.out.trans H9.out (by simp))).mono ?_; rintro e w10 ⟨he, FT', b', pr', k1, k2, k3, -⟩; obtain ⟨g, hg⟩ : ∃ g, (lk l9 ((n : Int), pfx k' n)).isNone = g := ⟨_, rfl⟩; rw [hg] at he; subst he; clear hg; have H10 := Hidden.mk (And.intro k1 (And.intro ((hA7.out.trans H9.out (by simp)).trans' k2) (fun q hq => (k3 q hq).imp id (Nat.le_trans (hA7.out.trans H9.out (by simp)).size)))); clear k1 k2 k3))
          all_goals
            go_wp2_with fail
            go_roundw
            case rel => exact ⟨n + 1, rfl, by omega, del_put (s := (Q, y)) H7.out.1 HR.out.2.1 hn64 HSP.out HIN.out H7.out.2.1 HR.out.2.2.2.2.2.1 (Mt.call_taken HR.out.2.2.1 (by have := HR.out.2.2.2.1; omega)) (by have := HR.out.2.2.2.1; omega) HR.out.2.2.2.2.2.2.1 HR.out.2.2.2.2.2.2.2.1 (ins_mod HR.out.2.2.2.2.2.2.2.2 HR.out.2.2.2.2.2.2.2.1 H7.out.2.2) H10.out.1 H10.out.2.1 H10.out.2.2⟩
            case measure => simp [intOf]; omega
        have hab : (x == (a : Int)) = false := beq_eq_false_iff_ne.2 hxa
        rw [if_neg hxa] at hdel
        by_cases hya : y = a
        · have HIN := Hidden.mk (show spn (A ++ B) n (pfx k' n) = some (x, P) from by rw [hdel, if_pos hya])
          have hyb : (y == (a : Int)) = true := by simp [hya]
          clear hdel hxy hxya hxa hya
          go_wp2_with fail
          refine HF.out.mono ?_
          rintro e w7 ⟨rfl, pr7, ht7, hm7, hM7⟩
          simp only [Option.getD_some, Option.isSome_some]
          have H7 := Hidden.mk (And.intro (HR.out.1.looked (m' := m9) HR.out.2.2.2.2.1 ht7 hM7) (And.intro hm7 hM7))
          have hx7 := H7.out.1.blk.lt
          have c71 : w7.cell? ⟨xb, 1, none⟩ = some (.pointer (some ⟨tb9, 0, none⟩)) := H7.out.1.blk.cell 1
          clear ht7 hm7 hM7 HF
          have hA7 := Hidden.mk ((Mod.refl [] w7).alloc (.cells #[.int .i64 x, .int .i64 P] 89))
          have KN : Hidden (∀ W, Mod [] (w7.alloc (.cells #[.int .i64 x, .int .i64 P] 89)) W → Blk W w7.heap.size 89 #[.int .i64 x, .int .i64 P]) := ⟨fun W hW => (Blk.new w7 _ _).mod hW (by simp)⟩
          have KX : Hidden (∀ W, Mod [] (w7.alloc (.cells #[.int .i64 x, .int .i64 P] 89)) W → W.cell? ⟨xb, 1, none⟩ = some (.pointer (some ⟨tb9, 0, none⟩))) := ⟨fun W hW => (H7.out.1.mod (hA7.out.trans hW (by simp)) (by simp)).blk.cell 1⟩
          have HPX := Hidden.mk (fun W => xf_prefix (w := W) k' n hHK hn64)
          have hbp := spn_bnd HXL.out HIN.out
          have HPK := Hidden.mk (fun W => xf_pack (w := W) x P hbp.1 hbp.2)
          have HPT := Hidden.mk (fun W (hW : Mod [] w7 W) => hash_put ((n : Int), pfx k' n) (packS (x, P)) (keyOK_pfx hHK hn64) (H7.out.1.tab.mod hW (by simp)) (by have := HR.out.2.2.2.2.2.2.1; omega))
          clear hbp
          go_wp2_with fail
          go_region_with (first | (go_at_call 79; refine (HPX.out _).mono ?_; rintro e w8 ⟨rfl, hm8⟩; have H8 := Hidden.mk ((Mod.refl [] (w7.alloc (.cells #[.int .i64 x, .int .i64 P] 89))).drew.trans hm8 (by simp)); have d80 : w8.cell? ⟨w7.heap.size, 0, none⟩ = some (.int .i64 x) := (KN.out _ H8.out).cell 0; have d81 : w8.cell? ⟨w7.heap.size, 1, none⟩ = some (.int .i64 P) := (KN.out _ H8.out).cell 1; have d8l := (KN.out _ H8.out).lt; have c81 := KX.out _ H8.out; clear hm8) | (go_at_call 80; refine (HPK.out _).mono ?_; rintro e w9 ⟨rfl, hm9⟩; have H9 := Hidden.mk (H8.out.trans hm9 (by simp)); have c91 := KX.out _ H9.out; clear hm9) | (go_at_call 78; refine (HPT.out _ (hA7.out.trans H9.out (by simp))).mono ?_; rintro e w10 ⟨he, FT', b', pr', k1, k2, k3, -⟩; obtain ⟨g, hg⟩ : ∃ g, (lk l9 ((n : Int), pfx k' n)).isNone = g := ⟨_, rfl⟩; rw [hg] at he; subst he; clear hg; have H10 := Hidden.mk (And.intro k1 (And.intro ((hA7.out.trans H9.out (by simp)).trans' k2) (fun q hq => (k3 q hq).imp id (Nat.le_trans (hA7.out.trans H9.out (by simp)).size)))); clear k1 k2 k3))
          all_goals
            go_wp2_with fail
            go_roundw
            case rel => exact ⟨n + 1, rfl, by omega, del_put (s := (x, P)) H7.out.1 HR.out.2.1 hn64 HSP.out HIN.out H7.out.2.1 HR.out.2.2.2.2.2.1 (Mt.call_taken HR.out.2.2.1 (by have := HR.out.2.2.2.1; omega)) (by have := HR.out.2.2.2.1; omega) HR.out.2.2.2.2.2.2.1 HR.out.2.2.2.2.2.2.2.1 (ins_mod HR.out.2.2.2.2.2.2.2.2 HR.out.2.2.2.2.2.2.2.1 H7.out.2.2) H10.out.1 H10.out.2.1 H10.out.2.2⟩
            case measure => simp [intOf]; omega
        have hyb : (y == (a : Int)) = false := beq_eq_false_iff_ne.2 hya
        have HIN := Hidden.mk (show spn (A ++ B) n (pfx k' n) = some (x, y) from by rw [hdel, if_neg hya])
        clear hdel hxy hxya hxa hya
        go_wp2_with fail
        refine HF.out.mono ?_
        rintro e w7 ⟨rfl, pr7, ht7, hm7, hM7⟩
        simp only [Option.getD_some, Option.isSome_some]
        have H7 := Hidden.mk (And.intro (HR.out.1.looked (m' := m9) HR.out.2.2.2.2.1 ht7 hM7) (And.intro hm7 hM7))
        have hx7 := H7.out.1.blk.lt
        have c71 : w7.cell? ⟨xb, 1, none⟩ = some (.pointer (some ⟨tb9, 0, none⟩)) := H7.out.1.blk.cell 1
        clear ht7 hm7 hM7 HF
        have hA7 := Hidden.mk ((Mod.refl [] w7).alloc (.cells #[.int .i64 x, .int .i64 y] 89))
        have KN : Hidden (∀ W, Mod [] (w7.alloc (.cells #[.int .i64 x, .int .i64 y] 89)) W → Blk W w7.heap.size 89 #[.int .i64 x, .int .i64 y]) := ⟨fun W hW => (Blk.new w7 _ _).mod hW (by simp)⟩
        have KX : Hidden (∀ W, Mod [] (w7.alloc (.cells #[.int .i64 x, .int .i64 y] 89)) W → W.cell? ⟨xb, 1, none⟩ = some (.pointer (some ⟨tb9, 0, none⟩))) := ⟨fun W hW => (H7.out.1.mod (hA7.out.trans hW (by simp)) (by simp)).blk.cell 1⟩
        have HPX := Hidden.mk (fun W => xf_prefix (w := W) k' n hHK hn64)
        have hbp := spn_bnd HXL.out HIN.out
        have HPK := Hidden.mk (fun W => xf_pack (w := W) x y hbp.1 hbp.2)
        have HPT := Hidden.mk (fun W (hW : Mod [] w7 W) => hash_put ((n : Int), pfx k' n) (packS (x, y)) (keyOK_pfx hHK hn64) (H7.out.1.tab.mod hW (by simp)) (by have := HR.out.2.2.2.2.2.2.1; omega))
        clear hbp
        go_wp2_with fail
        go_region_with (first | (go_at_call 79; refine (HPX.out _).mono ?_; rintro e w8 ⟨rfl, hm8⟩; have H8 := Hidden.mk ((Mod.refl [] (w7.alloc (.cells #[.int .i64 x, .int .i64 y] 89))).drew.trans hm8 (by simp)); have d80 : w8.cell? ⟨w7.heap.size, 0, none⟩ = some (.int .i64 x) := (KN.out _ H8.out).cell 0; have d81 : w8.cell? ⟨w7.heap.size, 1, none⟩ = some (.int .i64 y) := (KN.out _ H8.out).cell 1; have d8l := (KN.out _ H8.out).lt; have c81 := KX.out _ H8.out; clear hm8) | (go_at_call 80; refine (HPK.out _).mono ?_; rintro e w9 ⟨rfl, hm9⟩; have H9 := Hidden.mk (H8.out.trans hm9 (by simp)); have c91 := KX.out _ H9.out; clear hm9) | (go_at_call 78; refine (HPT.out _ (hA7.out.trans H9.out (by simp))).mono ?_; rintro e w10 ⟨he, FT', b', pr', k1, k2, k3, -⟩; obtain ⟨g, hg⟩ : ∃ g, (lk l9 ((n : Int), pfx k' n)).isNone = g := ⟨_, rfl⟩; rw [hg] at he; subst he; clear hg; have H10 := Hidden.mk (And.intro k1 (And.intro ((hA7.out.trans H9.out (by simp)).trans' k2) (fun q hq => (k3 q hq).imp id (Nat.le_trans (hA7.out.trans H9.out (by simp)).size)))); clear k1 k2 k3))
        all_goals
          go_wp2_with fail
          go_roundw
          case rel => exact ⟨n + 1, rfl, by omega, del_put (s := (x, y)) H7.out.1 HR.out.2.1 hn64 HSP.out HIN.out H7.out.2.1 HR.out.2.2.2.2.2.1 (Mt.call_taken HR.out.2.2.1 (by have := HR.out.2.2.2.1; omega)) (by have := HR.out.2.2.2.1; omega) HR.out.2.2.2.2.2.2.1 HR.out.2.2.2.2.2.2.2.1 (ins_mod HR.out.2.2.2.2.2.2.2.2 HR.out.2.2.2.2.2.2.2.1 H7.out.2.2) H10.out.1 H10.out.2.1 H10.out.2.2⟩
          case measure => simp [intOf]; omega
      · have hltd : decide ((n : Int) ≤ 64) = false := decide_eq_false hlt
        obtain ⟨tb9, cb9, b9, FT9, FC9, pr9, l9, m9, c9, hI, hXT, hMt, htk, hcb, hln, hFr, hMo⟩ := hst
        obtain rfl : n = 65 := by omega
        have HD := Hidden.mk (chain_drop hI.chn)
        have c92 : wr.cell? ⟨xb, 2, none⟩ = some (.pointer (some ⟨cb9, 0, none⟩)) := hI.blk.cell 2
        have hl9 := hI.blk.lt
        have HS := Hidden.mk (And.intro hI (And.intro hXT (And.intro hMt (And.intro htk (And.intro hcb (And.intro hln (And.intro hFr hMo)))))))
        clear hI hXT hMt htk hcb hln hFr hMo hlt hn
        go_wp2_with fail
        refine HD.out.mono ?_
        rintro e w8 ⟨rfl, FC', hC8, hM8, hF8⟩
        have H8 := Hidden.mk (And.intro (HS.out.1.linked hC8 hM8 hF8) (And.intro hM8 hF8))
        clear hC8 hM8 hF8 HD
        go_wp2_with fail
        go_ret
        have hm9 : mb ∉ xb :: (FT9 ++ FC9) := fresh_not HS.out.2.2.2.2.2.2.1 HNB.out.1 HNB.out.2
        have hfr : Fresh w (xb :: (FT ++ FC)) (xb :: (FT9 ++ FC')) := fun q hq => by
          simp only [List.mem_cons, List.mem_append] at hq
          rcases hq with rfl | hq | hq
          · exact .inl (by simp)
          · exact HS.out.2.2.2.2.2.2.1 q (by simp [hq])
          · rcases H8.out.2.2 q hq with h1 | h1
            · exact HS.out.2.2.2.2.2.2.1 q (by simp [h1])
            · exact .inr (Nat.le_trans HS.out.2.2.2.2.2.2.2.size h1)
        have hlim := HX.out.2.2.2.2.1
        exact ⟨0, A ++ B, _, m9, c9, rfl, ⟨tb9, cb9, b9, FT9, FC', pr9, l9, rfl, H8.out.1, HS.out.2.1.done, up_del HX.out.2.2.1, k64_del HX.out.2.2.2.1, by
          have := HS.out.2.2.2.2.2.1
          simp only [List.length_append, List.length_cons] at hlim ⊢
          omega⟩, fresh_not hfr HNB.out.1 HNB.out.2, HS.out.2.2.1.mod H8.out.2.1 (fun hh => hm9 (by simp [hh])), HS.out.2.2.2.1, by have := HS.out.2.2.2.2.1; omega, HS.out.2.2.2.2.2.2.2.trans H8.out.2.1 (fun q hq => by
            rcases HS.out.2.2.2.2.2.2.1 q (by simp [hq]) with h1 | h1
            · exact .inl (by simp [h1])
            · exact .inr h1), hfr, .inr ⟨HAB.out.2.2, rfl, keys_del HAB.out.1 HAB.out.2.1⟩⟩
end Go.Proofs.Ytfioekkegihkoaa
