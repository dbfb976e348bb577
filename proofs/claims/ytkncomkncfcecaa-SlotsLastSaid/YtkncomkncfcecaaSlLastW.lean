/- SlotsLast: the walk. -/
import Derived.Test.YtkncomkncfcecaaLayB
import Derived.Test.YtkncomkncfcecaaShaRef
set_option linter.unusedVariables false
set_option linter.unusedSimpArgs false
namespace Go.Proofs.Ytkncomkncfcecaa
open Go.RowKit
attribute [local go_sem] ev_tmp ev_const ev_func ev_global lk_hit lk_miss uponK_value uponK_skip look_tmp look_const look_global look_func valP_value
theorem str_ne6 {a b : List UInt8} (h : a ≠ b) : ((⟨a.toArray⟩ : ByteArray) == ⟨b.toArray⟩) = false := by
  cases hb : ((⟨a.toArray⟩ : ByteArray) == ⟨b.toArray⟩) with
  | false => rfl
  | true =>
    exfalso
    apply h
    have : (a.toArray == b.toArray) = true := hb
    simpa using this
theorem str_ne' {a b : List UInt8} (h : a ≠ b) : ((⟨a.toArray⟩ : ByteArray) != ⟨b.toArray⟩) = true := by unfold bne; rw [str_ne6 h]; rfl
set_option maxRecDepth 100000 in
set_option maxHeartbeats 8000000 in
theorem slotsLast_top (A : Option Addr) (n c : Nat) (zs : List Int) (w : World) (hA : Vs w A n (zs.map (Value.int .i64))) (hnc : n ≤ c) (hc : c ≤ 140737488351232) (hzs : ∀ z ∈ zs, -9223372036854775808 ≤ z ∧ z ≤ 9223372036854775807) :
    Calls Try.prog 4 #[.slice A n c] w fun e w' => e = .returned (.bool true) ∧ Below w.heap.size w w' := by
  obtain ⟨f1, f2, e1, e2, I0⟩ := last_start
  have E1 := Lib.hid e1
  have E2 := Lib.hid e2
  have J0 := Lib.hid I0
  have HZS := Lib.hid hzs
  have HVA := Lib.hid hA
  clear e1 e2 I0 hA hzs
  refine calls_kw Try.func4 rfl Try.ntmps4 rfl [(0, .slice A n c)] rfl ?_
  repeat (first | refine kw_seq ?_ | refine kw_region ?_ | refine kl_nil ?_ | refine kq_then ?_ | refine kw_iff rfl ?_ | refine kw_skip ?_ | refine kw_block ?_ | refine kl_ung rfl rfl ?_ | refine kl_skipg rfl rfl rfl rfl ?_ | (first | refine kl_move rfl rfl (.inl rfl) rfl rfl ?_ | refine kl_move rfl rfl (.inr rfl) rfl rfl ?_ | refine kl_const rfl rfl (.inl rfl) rfl ?_ | refine kl_const rfl rfl (.inr rfl) rfl ?_) | ((first | refine kl_step rfl rfl rfl fun K hK => ?_ | refine kl_step0 rfl rfl rfl fun K hK => ?_); go_simp; (try go_bits); (first | refine hK _ _ ?_ | refine hK _ ?_); clear hK K))
  refine kl_call rfl rfl rfl Try.func10 rfl (by kernel_rfl) rfl ?_
  refine Calls.mono (known6_any w) ?_
  rintro e w0 ⟨rfl, hb0⟩
  refine ⟨_, rfl, ?_⟩
  have HS0 := Lib.hid hb0.size
  repeat (first | refine kw_seq ?_ | refine kw_region ?_ | refine kl_nil ?_ | refine kq_then ?_ | refine kw_iff rfl ?_ | refine kw_skip ?_ | refine kw_block ?_ | refine kl_ung rfl rfl ?_ | refine kl_skipg rfl rfl rfl rfl ?_ | (first | refine kl_move rfl rfl (.inl rfl) rfl rfl ?_ | refine kl_move rfl rfl (.inr rfl) rfl rfl ?_ | refine kl_const rfl rfl (.inl rfl) rfl ?_ | refine kl_const rfl rfl (.inr rfl) rfl ?_) | ((first | refine kl_step rfl rfl rfl fun K hK => ?_ | refine kl_step0 rfl rfl rfl fun K hK => ?_); go_simp; (try go_bits); (first | refine hK _ _ ?_ | refine hK _ ?_); clear hK K))
  refine kl_call rfl rfl rfl Try.func12 rfl (by kernel_rfl) rfl ?_
  refine Calls.mono (new_any w0) ?_
  rintro e w1 ⟨rfl, hf1, hb1⟩
  refine ⟨_, rfl, ?_⟩
  obtain ⟨g, hg⟩ : ∃ g, w0.heap.size = g := ⟨_, rfl⟩
  have hL1 : Lay w w1 [] := ((Lay.start w).next hb0).next (by exact hb1)
  rw [hg] at hf1 ⊢
  have HG : Hid (w.heap.size ≤ g) := by show _ ≤ _; have := HS0.out; omega
  have hf1 : FS NoB w1 g newF := hf1
  have hgl := hf1.lt
  clear hg hb1 hb0
  repeat (first | refine kw_seq ?_ | refine kw_region ?_ | refine kl_nil ?_ | refine kq_then ?_ | refine kw_iff rfl ?_ | refine kw_skip ?_ | refine kw_block ?_ | refine kl_ung rfl rfl ?_ | refine kl_skipg rfl rfl rfl rfl ?_ | (first | refine kl_move rfl rfl (.inl rfl) rfl rfl ?_ | refine kl_move rfl rfl (.inr rfl) rfl rfl ?_ | refine kl_const rfl rfl (.inl rfl) rfl ?_ | refine kl_const rfl rfl (.inr rfl) rfl ?_) | ((first | refine kl_step rfl rfl rfl fun K hK => ?_ | refine kl_step0 rfl rfl rfl fun K hK => ?_); go_simp; (try go_bits); (first | refine hK _ _ ?_ | refine hK _ ?_); clear hK K))
  refine kl_convLit _ rfl rfl rfl rfl rfl rfl ?_
  have hB2 : Bs (w1.alloc (.cells (bv iA).toArray 5 (3, 4))) (some ⟨w1.heap.size, 0, none⟩) 3 iA := bs_mark w1 iA (3, 4) rfl
  have hbl2 : Below w1.heap.size w1 (w1.alloc (.cells (bv iA).toArray 5 (3, 4))) := (Below.refl w1.heap.size w1).alloc (Nat.le_refl _) (.cells (bv iA).toArray 5 (3, 4))
  refine (show KL _ _ _ _ _ _ (w1.alloc (.cells (bv iA).toArray 5 (3, 4))) from ?_)
  obtain ⟨w2, hw2⟩ : ∃ w2, w1.alloc (.cells (bv iA).toArray 5 (3, 4)) = w2 := ⟨_, rfl⟩
  rw [hw2] at hB2 hbl2 ⊢
  obtain ⟨ga, hga⟩ : ∃ ga, w1.heap.size = ga := ⟨_, rfl⟩
  rw [hga] at hB2 ⊢
  clear hw2
  have hf2 := hf1.below hbl2
  have hL2 := hL1.next hbl2
  have hs2 := hbl2.size
  clear hbl2 hf1 hL1
  repeat (first | (first | refine kl_move rfl rfl (.inl rfl) rfl rfl ?_ | refine kl_move rfl rfl (.inr rfl) rfl rfl ?_ | refine kl_const rfl rfl (.inl rfl) rfl ?_ | refine kl_const rfl rfl (.inr rfl) rfl ?_) | ((first | refine kl_step rfl rfl rfl fun K hK => ?_ | refine kl_step0 rfl rfl rfl fun K hK => ?_); go_simp; (try go_bits); (first | refine hK _ _ ?_ | refine hK _ ?_); clear hK K))
  refine kl_convLit _ rfl rfl rfl rfl rfl rfl ?_
  have hB3 : Bs (w2.alloc (.cells (bv iB).toArray 5 (5, 6))) (some ⟨w2.heap.size, 0, none⟩) 5 iB := bs_mark w2 iB (5, 6) rfl
  have hbl3 : Below w2.heap.size w2 (w2.alloc (.cells (bv iB).toArray 5 (5, 6))) := (Below.refl w2.heap.size w2).alloc (Nat.le_refl _) (.cells (bv iB).toArray 5 (5, 6))
  refine (show KL _ _ _ _ _ _ (w2.alloc (.cells (bv iB).toArray 5 (5, 6))) from ?_)
  obtain ⟨w3, hw3⟩ : ∃ w3, w2.alloc (.cells (bv iB).toArray 5 (5, 6)) = w3 := ⟨_, rfl⟩
  rw [hw3] at hB3 hbl3 ⊢
  obtain ⟨gb, hgb⟩ : ∃ gb, w2.heap.size = gb := ⟨_, rfl⟩
  rw [hgb] at hB3 ⊢
  clear hw3
  have hf3 := hf2.below hbl3
  have HL3 := Lib.hid (hL2.next hbl3)
  have HA3 := Lib.hid (hB2.below hbl3)
  have HB3 := Lib.hid hB3
  have AWA : Hid (0 < 3 → Away g (some ⟨ga, 0, none⟩)) := fun _ x hx => by injection hx with hx; subst hx; show ga ≠ g; omega
  have AWB : Hid (0 < 5 → Away g (some ⟨gb, 0, none⟩)) := fun _ x hx => by injection hx with hx; subst hx; show gb ≠ g; omega
  clear hbl3 hf2 hL2 hB2 hB3 hga hgb hgl hs2
  repeat (first | refine kw_seq ?_ | refine kw_region ?_ | refine kl_nil ?_ | refine kq_then ?_ | refine kw_iff rfl ?_ | refine kw_skip ?_ | refine kw_block ?_ | refine kl_ung rfl rfl ?_ | refine kl_skipg rfl rfl rfl rfl ?_ | (first | refine kl_move rfl rfl (.inl rfl) rfl rfl ?_ | refine kl_move rfl rfl (.inr rfl) rfl rfl ?_ | refine kl_const rfl rfl (.inl rfl) rfl ?_ | refine kl_const rfl rfl (.inr rfl) rfl ?_) | ((first | refine kl_step rfl rfl rfl fun K hK => ?_ | refine kl_step0 rfl rfl rfl fun K hK => ?_); go_simp; (try go_bits); (first | refine hK _ _ ?_ | refine hK _ ?_); clear hK K))
  refine kl_call rfl rfl rfl Try.func17 rfl (by kernel_rfl) rfl ?_
  refine Calls.mono (store_any NoB g (noB g) newF 0 (some ⟨ga, 0, none⟩) 3 3 iA w3 hf3 (by unfold I64; omega) HA3.out AWA.out (by omega) (by omega)) ?_
  rintro e w4 ⟨rfl, hf4, hg4⟩
  refine ⟨_, rfl, ?_⟩
  rw [E1.out] at hf4 ⊢
  dsimp only at hf4 ⊢
  have HL4 := Lib.hid (HL3.out.grown hg4 HG.out (fun p hp => by simp at hp))
  have HA4 := Lib.hid (HA3.out.grownKeep0 hg4 AWA.out)
  have HB4 := Lib.hid (HB3.out.grownKeep0 hg4 AWB.out)
  clear hg4 hf3 HL3 HA3 HB3
  repeat (first | refine kw_seq ?_ | refine kw_region ?_ | refine kl_nil ?_ | refine kq_then ?_ | refine kw_iff rfl ?_ | refine kw_skip ?_ | refine kw_block ?_ | refine kl_ung rfl rfl ?_ | refine kl_skipg rfl rfl rfl rfl ?_ | (first | refine kl_move rfl rfl (.inl rfl) rfl rfl ?_ | refine kl_move rfl rfl (.inr rfl) rfl rfl ?_ | refine kl_const rfl rfl (.inl rfl) rfl ?_ | refine kl_const rfl rfl (.inr rfl) rfl ?_) | ((first | refine kl_step rfl rfl rfl fun K hK => ?_ | refine kl_step0 rfl rfl rfl fun K hK => ?_); go_simp; (try go_bits); (first | refine hK _ _ ?_ | refine hK _ ?_); clear hK K))
  refine kl_call rfl rfl rfl Try.func17 rfl (by kernel_rfl) rfl ?_
  refine Calls.mono (store_any NoB g (noB g) f1 1 (some ⟨gb, 0, none⟩) 5 5 iB w4 hf4 (by unfold I64; omega) HB4.out AWB.out (by omega) (by omega)) ?_
  rintro e w5 ⟨rfl, hf5, hg5⟩
  refine ⟨_, rfl, ?_⟩
  rw [E2.out] at hf5 ⊢
  dsimp only at hf5 ⊢
  have HL5 := Lib.hid (HL4.out.grown hg5 HG.out (fun p hp => by simp at hp))
  have HA5 := Lib.hid (HA4.out.grownKeep0 hg5 AWA.out)
  have HB5 := Lib.hid (HB4.out.grownKeep0 hg5 AWB.out)
  clear hg5 hf4 HL4 HA4 HB4
  repeat (first | refine kw_seq ?_ | refine kw_region ?_ | refine kl_nil ?_ | refine kq_then ?_ | refine kw_iff rfl ?_ | refine kw_skip ?_ | refine kl_ung rfl rfl ?_ | refine kl_skipg rfl rfl rfl rfl ?_ | (first | refine kl_move rfl rfl (.inl rfl) rfl rfl ?_ | refine kl_move rfl rfl (.inr rfl) rfl rfl ?_ | refine kl_const rfl rfl (.inl rfl) rfl ?_ | refine kl_const rfl rfl (.inr rfl) rfl ?_) | ((first | refine kl_step rfl rfl rfl fun K hK => ?_ | refine kl_step0 rfl rfl rfl fun K hK => ?_); go_simp; (try go_bits); (first | refine hK _ _ ?_ | refine hK _ ?_); clear hK K))
  clear E1 E2
  refine KW.less [0, 3, 4, 5, 6, 7] ?_
  simp only [nrm, lk, Nat.reduceBEq, cond_true, cond_false]
  refine kw_block ?_
  refine kw_loop (fun mm L W => ∃ i f j, i ≤ n ∧ mm = n - i ∧ i ≤ 50 ∧ j ≤ 2 ∧ Hid (LInv i f) ∧ Hid (Lay w W []) ∧ FS NoB W g f ∧ Hid (Bs W (some ⟨ga, 0, none⟩) 3 iA) ∧ Hid (Bs W (some ⟨gb, 0, none⟩) 5 iB) ∧ L = [(0, .slice A n c), (3, .pointer (some ⟨g, 0, none⟩)), (4, .slice (some ⟨ga, 0, none⟩) 3 3), (5, .slice (some ⟨gb, 0, none⟩) 5 5), (6, .int .i64 ((j : Nat) : Int)), (7, .int .i64 (i : Int))]) ⟨0, f2, 2, by omega, rfl, by omega, by omega, J0, HL5, hf5, HA5, HB5, rfl⟩ ?_
  clear J0 HL5 hf5 HA5 HB5 f1 f2
  rintro mm L W ⟨i, f, j, hi, rfl, hi50, hj, I, HL6, hf6, HA6, HB6, rfl⟩
  by_cases hin : i < n ∧ i < 50
  case neg =>
    have hx : (decide ((i : Int) < (n : Int)) = false) ∨ (decide ((i : Int) < (n : Int)) = true ∧ decide ((i : Int) < 50) = false) := by
      by_cases h1 : i < n
      · exact .inr ⟨by rw [decide_eq_true_eq]; omega, by rw [decide_eq_false_iff_not]; omega⟩
      · exact .inl (by rw [decide_eq_false_iff_not]; omega)
    have hcut : ∀ (Lx : Slots), True := fun _ => trivial
    clear hcut hin
    rcases hx with t1 | ⟨t1, t2⟩
    · have t1n : decide (i < n) = false := by rw [← t1]; exact decide_eq_decide.2 (by omega)
      by_cases hj2 : j = 2
      · subst hj2
        repeat (first | refine kw_seq ?_ | refine kw_block ?_ | refine kw_skip ?_ | refine kw_region ?_ | refine kl_nil ?_ | refine kq_then ?_ | refine kq_block ?_ | refine kw_exit ?_ | refine kq_then_exit ?_ | refine kq_block_here rfl ?_ | refine kq_block_far rfl ?_ | refine kq_again_exit ?_ | refine kw_ret ?_ | refine kq_then_ret ?_ | refine kq_block_ret ?_ | refine kq_again_ret ?_ | refine kw_ift rfl ?_ | refine kw_iff rfl ?_ | refine kl_ung rfl rfl ?_ | refine kl_skipg rfl rfl rfl rfl ?_ | refine kl_skipg0 rfl rfl rfl ?_ | (first | refine kl_move rfl rfl (.inl rfl) rfl rfl ?_ | refine kl_move rfl rfl (.inr rfl) rfl rfl ?_ | refine kl_const rfl rfl (.inl rfl) rfl ?_ | refine kl_const rfl rfl (.inr rfl) rfl ?_) | ((first | refine kl_step rfl rfl rfl fun K hK => ?_ | refine kl_step0 rfl rfl rfl fun K hK => ?_); go_simp; (try go_bits); (first | refine hK _ _ ?_ | refine hK _ ?_); clear hK K))
        exact kq_ret1 rfl rfl ⟨rfl, HL6.out.below⟩
      obtain ⟨f3, e, b, s1, s2, s3, s4, s5⟩ := I.out.third j (by omega)
      have E3 := Lib.hid s1
      have BE := Lib.hid s2
      have S5 := Lib.hid s5
      have S4 := Lib.hid s4
      have HJI : Hid (I64 (j : Int)) := by show I64 _; unfold I64; omega
      have q0 : ((j : Int) == 2) = false := by rw [beq_eq_false_iff_ne]; omega
      have q0n : (j == 2) = false := by rw [beq_eq_false_iff_ne]; omega
      have q1 : (e.slot != (j : Int)) = true := bne_iff_ne.2 s3
      clear s1 s2 s3 s4 s5 hj2
      repeat (first | refine kw_seq ?_ | refine kw_region ?_ | refine kl_nil ?_ | refine kq_then ?_ | refine kq_block ?_ | refine kw_iff rfl ?_ | refine kw_exit ?_ | refine kq_then_exit ?_ | refine kq_block_here rfl ?_ | refine kw_skip ?_ | refine kl_ung rfl rfl ?_ | refine kl_skipg rfl rfl rfl rfl ?_ | (first | refine kl_move rfl rfl (.inl rfl) rfl rfl ?_ | refine kl_move rfl rfl (.inr rfl) rfl rfl ?_ | refine kl_const rfl rfl (.inl rfl) rfl ?_ | refine kl_const rfl rfl (.inr rfl) rfl ?_) | ((first | refine kl_step rfl rfl rfl fun K hK => ?_ | refine kl_step0 rfl rfl rfl fun K hK => ?_); go_simp; (try go_bits); (first | refine hK _ _ ?_ | refine hK _ ?_); clear hK K))
      clear t1 t1n
      refine kl_convLit _ rfl rfl rfl rfl rfl rfl ?_
      have hB7 : Bs (W.alloc (.cells (bv iC).toArray 5 (5, 6))) (some ⟨W.heap.size, 0, none⟩) 5 iC := bs_mark W iC (5, 6) rfl
      have hbl7 : Below W.heap.size W (W.alloc (.cells (bv iC).toArray 5 (5, 6))) := (Below.refl W.heap.size W).alloc (Nat.le_refl _) (.cells (bv iC).toArray 5 (5, 6))
      refine (show KL _ _ _ _ _ _ (W.alloc (.cells (bv iC).toArray 5 (5, 6))) from ?_)
      obtain ⟨w7, hw7⟩ : ∃ w7, W.alloc (.cells (bv iC).toArray 5 (5, 6)) = w7 := ⟨_, rfl⟩
      rw [hw7] at hB7 hbl7 ⊢
      obtain ⟨gc, hgc⟩ : ∃ gc, W.heap.size = gc := ⟨_, rfl⟩
      rw [hgc] at hB7 ⊢
      clear hw7
      have AWC : Hid (0 < 5 → Away g (some ⟨gc, 0, none⟩)) := fun _ x hx => by injection hx with hx; subst hx; have := hf6.lt; show gc ≠ g; omega
      have hf7 := hf6.below hbl7
      have HL7 := Lib.hid (HL6.out.next hbl7)
      have HC7 := Lib.hid hB7
      clear hf6 HL6 hbl7 hB7 hgc HA6 HB6
      repeat (first | refine kw_seq ?_ | refine kw_region ?_ | refine kl_nil ?_ | refine kq_then ?_ | refine kw_iff rfl ?_ | refine kw_skip ?_ | refine kw_block ?_ | refine kl_ung rfl rfl ?_ | refine kl_skipg rfl rfl rfl rfl ?_ | (first | refine kl_move rfl rfl (.inl rfl) rfl rfl ?_ | refine kl_move rfl rfl (.inr rfl) rfl rfl ?_ | refine kl_const rfl rfl (.inl rfl) rfl ?_ | refine kl_const rfl rfl (.inr rfl) rfl ?_) | ((first | refine kl_step rfl rfl rfl fun K hK => ?_ | refine kl_step0 rfl rfl rfl fun K hK => ?_); go_simp; (try go_bits); (first | refine hK _ _ ?_ | refine hK _ ?_); clear hK K))
      refine kl_call rfl rfl rfl Try.func17 rfl (by kernel_rfl) rfl ?_
      refine Calls.mono (store_any NoB g (noB g) f j (some ⟨gc, 0, none⟩) 5 5 iC w7 hf7 HJI.out HC7.out AWC.out (by omega) (by omega)) ?_
      rintro e w8 ⟨rfl, hf8, hg8⟩
      refine ⟨_, rfl, ?_⟩
      rw [E3.out] at hf8 ⊢
      dsimp only at hf8 ⊢
      have hL8 := HL7.out.grown hg8 HG.out (fun p hp => by simp at hp)
      clear hg8 hf7 HL7 HC7
      repeat (first | refine kw_seq ?_ | refine kw_region ?_ | refine kl_nil ?_ | refine kq_then ?_ | refine kw_iff rfl ?_ | refine kw_skip ?_ | refine kw_block ?_ | refine kl_ung rfl rfl ?_ | refine kl_skipg rfl rfl rfl rfl ?_ | (first | refine kl_move rfl rfl (.inl rfl) rfl rfl ?_ | refine kl_move rfl rfl (.inr rfl) rfl rfl ?_ | refine kl_const rfl rfl (.inl rfl) rfl ?_ | refine kl_const rfl rfl (.inr rfl) rfl ?_) | ((first | refine kl_step rfl rfl rfl fun K hK => ?_ | refine kl_step0 rfl rfl rfl fun K hK => ?_); go_simp; (try go_bits); (first | refine hK _ _ ?_ | refine hK _ ?_); clear hK K))
      refine kl_call rfl rfl rfl Try.func14 rfl (by kernel_rfl) rfl ?_
      refine Calls.mono (boot_any NoB g f3 w8 hf8) ?_
      rintro e wb9 ⟨A9, n9, c9, rfl, hB9, hT9, hn9, hc9, hb9⟩
      refine ⟨_, rfl, ?_⟩
      rw [BE.out] at hB9 ⊢
      dsimp only at hB9 ⊢
      have hf9 := hf8.below hb9
      have hL9 := hL8.next hb9
      have hNB9 := hB9.len
      have HAW9 := Lib.hid (boot_away hf9 hB9 hT9)
      clear hT9
      clear hb9
      repeat (first | (first | refine kl_move rfl rfl (.inl rfl) rfl rfl ?_ | refine kl_move rfl rfl (.inr rfl) rfl rfl ?_ | refine kl_const rfl rfl (.inl rfl) rfl ?_ | refine kl_const rfl rfl (.inr rfl) rfl ?_) | ((first | refine kl_step rfl rfl rfl fun K hK => ?_ | refine kl_step0 rfl rfl rfl fun K hK => ?_); go_simp; (try go_bits); (first | refine hK _ _ ?_ | refine hK _ ?_); clear hK K))
      refine kl_varL (z := (entC entZ).toArray) (cells := (entC e).toArray) hL9 entZero (entInfo e S5.out) (by rw [List.size_toArray, List.size_toArray, entC_len entZ z32_len, entC_len e S5.out]) (ent_one e) rfl rfl rfl rfl rfl rfl rfl rfl rfl ?_
      intro ge9 wv9 hge9 hbv9 hL9'
      have hf9' := hf9.below hbv9
      have hB9' := hB9.keep (.of_below hbv9)
      have HNE9 : Hid (ge9 ≠ g) := by show _ ≠ _; have := hf9.lt; omega
      clear hge9 hbv9 hf9 hL9 hB9
      have r1 := row_slot (hL9'.at_ 0 rfl)
      have k1 := convB (c := c9) hB9'
      have k2 : ((⟨b.toArray⟩ : ByteArray) != ⟨#[116, 104, 105, 114, 100]⟩) = true := str_ne' (beq_eq_false_iff_ne.1 S4.out)
      have k3 : ((⟨b.toArray⟩ : ByteArray) == ⟨#[116, 104, 105, 114, 100]⟩) = false := str_ne6 (beq_eq_false_iff_ne.1 S4.out)
      have HL9 := Lib.hid hL9'
      clear hL8 hL9' hf8 hf9' hB9' hNB9
      repeat (first | refine kw_seq ?_ | refine kw_block ?_ | refine kw_skip ?_ | refine kw_region ?_ | refine kl_nil ?_ | refine kq_then ?_ | refine kq_block ?_ | refine kw_exit ?_ | refine kq_then_exit ?_ | refine kq_block_here rfl ?_ | refine kq_block_far rfl ?_ | refine kq_again_exit ?_ | refine kw_ret ?_ | refine kq_then_ret ?_ | refine kq_block_ret ?_ | refine kq_again_ret ?_ | refine kw_ift rfl ?_ | refine kw_iff rfl ?_ | refine kl_ung rfl rfl ?_ | refine kl_skipg rfl rfl rfl rfl ?_ | refine kl_skipg0 rfl rfl rfl ?_ | (first | refine kl_move rfl rfl (.inl rfl) rfl rfl ?_ | refine kl_move rfl rfl (.inr rfl) rfl rfl ?_ | refine kl_const rfl rfl (.inl rfl) rfl ?_ | refine kl_const rfl rfl (.inr rfl) rfl ?_) | ((first | refine kl_step rfl rfl rfl fun K hK => ?_ | refine kl_step0 rfl rfl rfl fun K hK => ?_); go_simp; (try go_bits); (first | refine hK _ _ ?_ | refine hK _ ?_); clear hK K))
      exact kq_ret1 rfl rfl ⟨by first | rfl | (simp; exact beq_eq_false_iff_ne.1 S4.out), HL9.out.below⟩
    · have t1n : decide (i < n) = true := by rw [← t1]; exact decide_eq_decide.2 (by omega)
      have t2n : decide (i < 50) = false := by rw [← t2]; exact decide_eq_decide.2 (by omega)
      by_cases hj2 : j = 2
      · subst hj2
        repeat (first | refine kw_seq ?_ | refine kw_block ?_ | refine kw_skip ?_ | refine kw_region ?_ | refine kl_nil ?_ | refine kq_then ?_ | refine kq_block ?_ | refine kw_exit ?_ | refine kq_then_exit ?_ | refine kq_block_here rfl ?_ | refine kq_block_far rfl ?_ | refine kq_again_exit ?_ | refine kw_ret ?_ | refine kq_then_ret ?_ | refine kq_block_ret ?_ | refine kq_again_ret ?_ | refine kw_ift rfl ?_ | refine kw_iff rfl ?_ | refine kl_ung rfl rfl ?_ | refine kl_skipg rfl rfl rfl rfl ?_ | refine kl_skipg0 rfl rfl rfl ?_ | (first | refine kl_move rfl rfl (.inl rfl) rfl rfl ?_ | refine kl_move rfl rfl (.inr rfl) rfl rfl ?_ | refine kl_const rfl rfl (.inl rfl) rfl ?_ | refine kl_const rfl rfl (.inr rfl) rfl ?_) | ((first | refine kl_step rfl rfl rfl fun K hK => ?_ | refine kl_step0 rfl rfl rfl fun K hK => ?_); go_simp; (try go_bits); (first | refine hK _ _ ?_ | refine hK _ ?_); clear hK K))
        exact kq_ret1 rfl rfl ⟨rfl, HL6.out.below⟩
      obtain ⟨f3, e, b, s1, s2, s3, s4, s5⟩ := I.out.third j (by omega)
      have E3 := Lib.hid s1
      have BE := Lib.hid s2
      have S5 := Lib.hid s5
      have S4 := Lib.hid s4
      have HJI : Hid (I64 (j : Int)) := by show I64 _; unfold I64; omega
      have q0 : ((j : Int) == 2) = false := by rw [beq_eq_false_iff_ne]; omega
      have q0n : (j == 2) = false := by rw [beq_eq_false_iff_ne]; omega
      have q1 : (e.slot != (j : Int)) = true := bne_iff_ne.2 s3
      clear s1 s2 s3 s4 s5 hj2
      repeat (first | refine kw_seq ?_ | refine kw_region ?_ | refine kl_nil ?_ | refine kq_then ?_ | refine kq_block ?_ | refine kw_iff rfl ?_ | refine kw_exit ?_ | refine kq_then_exit ?_ | refine kq_block_here rfl ?_ | refine kw_skip ?_ | refine kl_ung rfl rfl ?_ | refine kl_skipg rfl rfl rfl rfl ?_ | (first | refine kl_move rfl rfl (.inl rfl) rfl rfl ?_ | refine kl_move rfl rfl (.inr rfl) rfl rfl ?_ | refine kl_const rfl rfl (.inl rfl) rfl ?_ | refine kl_const rfl rfl (.inr rfl) rfl ?_) | ((first | refine kl_step rfl rfl rfl fun K hK => ?_ | refine kl_step0 rfl rfl rfl fun K hK => ?_); go_simp; (try go_bits); (first | refine hK _ _ ?_ | refine hK _ ?_); clear hK K))
      clear t1 t1n t2 t2n
      refine kl_convLit _ rfl rfl rfl rfl rfl rfl ?_
      have hB7 : Bs (W.alloc (.cells (bv iC).toArray 5 (5, 6))) (some ⟨W.heap.size, 0, none⟩) 5 iC := bs_mark W iC (5, 6) rfl
      have hbl7 : Below W.heap.size W (W.alloc (.cells (bv iC).toArray 5 (5, 6))) := (Below.refl W.heap.size W).alloc (Nat.le_refl _) (.cells (bv iC).toArray 5 (5, 6))
      refine (show KL _ _ _ _ _ _ (W.alloc (.cells (bv iC).toArray 5 (5, 6))) from ?_)
      obtain ⟨w7, hw7⟩ : ∃ w7, W.alloc (.cells (bv iC).toArray 5 (5, 6)) = w7 := ⟨_, rfl⟩
      rw [hw7] at hB7 hbl7 ⊢
      obtain ⟨gc, hgc⟩ : ∃ gc, W.heap.size = gc := ⟨_, rfl⟩
      rw [hgc] at hB7 ⊢
      clear hw7
      have AWC : Hid (0 < 5 → Away g (some ⟨gc, 0, none⟩)) := fun _ x hx => by injection hx with hx; subst hx; have := hf6.lt; show gc ≠ g; omega
      have hf7 := hf6.below hbl7
      have HL7 := Lib.hid (HL6.out.next hbl7)
      have HC7 := Lib.hid hB7
      clear hf6 HL6 hbl7 hB7 hgc HA6 HB6
      repeat (first | refine kw_seq ?_ | refine kw_region ?_ | refine kl_nil ?_ | refine kq_then ?_ | refine kw_iff rfl ?_ | refine kw_skip ?_ | refine kw_block ?_ | refine kl_ung rfl rfl ?_ | refine kl_skipg rfl rfl rfl rfl ?_ | (first | refine kl_move rfl rfl (.inl rfl) rfl rfl ?_ | refine kl_move rfl rfl (.inr rfl) rfl rfl ?_ | refine kl_const rfl rfl (.inl rfl) rfl ?_ | refine kl_const rfl rfl (.inr rfl) rfl ?_) | ((first | refine kl_step rfl rfl rfl fun K hK => ?_ | refine kl_step0 rfl rfl rfl fun K hK => ?_); go_simp; (try go_bits); (first | refine hK _ _ ?_ | refine hK _ ?_); clear hK K))
      refine kl_call rfl rfl rfl Try.func17 rfl (by kernel_rfl) rfl ?_
      refine Calls.mono (store_any NoB g (noB g) f j (some ⟨gc, 0, none⟩) 5 5 iC w7 hf7 HJI.out HC7.out AWC.out (by omega) (by omega)) ?_
      rintro e w8 ⟨rfl, hf8, hg8⟩
      refine ⟨_, rfl, ?_⟩
      rw [E3.out] at hf8 ⊢
      dsimp only at hf8 ⊢
      have hL8 := HL7.out.grown hg8 HG.out (fun p hp => by simp at hp)
      clear hg8 hf7 HL7 HC7
      repeat (first | refine kw_seq ?_ | refine kw_region ?_ | refine kl_nil ?_ | refine kq_then ?_ | refine kw_iff rfl ?_ | refine kw_skip ?_ | refine kw_block ?_ | refine kl_ung rfl rfl ?_ | refine kl_skipg rfl rfl rfl rfl ?_ | (first | refine kl_move rfl rfl (.inl rfl) rfl rfl ?_ | refine kl_move rfl rfl (.inr rfl) rfl rfl ?_ | refine kl_const rfl rfl (.inl rfl) rfl ?_ | refine kl_const rfl rfl (.inr rfl) rfl ?_) | ((first | refine kl_step rfl rfl rfl fun K hK => ?_ | refine kl_step0 rfl rfl rfl fun K hK => ?_); go_simp; (try go_bits); (first | refine hK _ _ ?_ | refine hK _ ?_); clear hK K))
      refine kl_call rfl rfl rfl Try.func14 rfl (by kernel_rfl) rfl ?_
      refine Calls.mono (boot_any NoB g f3 w8 hf8) ?_
      rintro e wb9 ⟨A9, n9, c9, rfl, hB9, hT9, hn9, hc9, hb9⟩
      refine ⟨_, rfl, ?_⟩
      rw [BE.out] at hB9 ⊢
      dsimp only at hB9 ⊢
      have hf9 := hf8.below hb9
      have hL9 := hL8.next hb9
      have hNB9 := hB9.len
      have HAW9 := Lib.hid (boot_away hf9 hB9 hT9)
      clear hT9
      clear hb9
      repeat (first | (first | refine kl_move rfl rfl (.inl rfl) rfl rfl ?_ | refine kl_move rfl rfl (.inr rfl) rfl rfl ?_ | refine kl_const rfl rfl (.inl rfl) rfl ?_ | refine kl_const rfl rfl (.inr rfl) rfl ?_) | ((first | refine kl_step rfl rfl rfl fun K hK => ?_ | refine kl_step0 rfl rfl rfl fun K hK => ?_); go_simp; (try go_bits); (first | refine hK _ _ ?_ | refine hK _ ?_); clear hK K))
      refine kl_varL (z := (entC entZ).toArray) (cells := (entC e).toArray) hL9 entZero (entInfo e S5.out) (by rw [List.size_toArray, List.size_toArray, entC_len entZ z32_len, entC_len e S5.out]) (ent_one e) rfl rfl rfl rfl rfl rfl rfl rfl rfl ?_
      intro ge9 wv9 hge9 hbv9 hL9'
      have hf9' := hf9.below hbv9
      have hB9' := hB9.keep (.of_below hbv9)
      have HNE9 : Hid (ge9 ≠ g) := by show _ ≠ _; have := hf9.lt; omega
      clear hge9 hbv9 hf9 hL9 hB9
      have r1 := row_slot (hL9'.at_ 0 rfl)
      have k1 := convB (c := c9) hB9'
      have k2 : ((⟨b.toArray⟩ : ByteArray) != ⟨#[116, 104, 105, 114, 100]⟩) = true := str_ne' (beq_eq_false_iff_ne.1 S4.out)
      have k3 : ((⟨b.toArray⟩ : ByteArray) == ⟨#[116, 104, 105, 114, 100]⟩) = false := str_ne6 (beq_eq_false_iff_ne.1 S4.out)
      have HL9 := Lib.hid hL9'
      clear hL8 hL9' hf8 hf9' hB9' hNB9
      repeat (first | refine kw_seq ?_ | refine kw_block ?_ | refine kw_skip ?_ | refine kw_region ?_ | refine kl_nil ?_ | refine kq_then ?_ | refine kq_block ?_ | refine kw_exit ?_ | refine kq_then_exit ?_ | refine kq_block_here rfl ?_ | refine kq_block_far rfl ?_ | refine kq_again_exit ?_ | refine kw_ret ?_ | refine kq_then_ret ?_ | refine kq_block_ret ?_ | refine kq_again_ret ?_ | refine kw_ift rfl ?_ | refine kw_iff rfl ?_ | refine kl_ung rfl rfl ?_ | refine kl_skipg rfl rfl rfl rfl ?_ | refine kl_skipg0 rfl rfl rfl ?_ | (first | refine kl_move rfl rfl (.inl rfl) rfl rfl ?_ | refine kl_move rfl rfl (.inr rfl) rfl rfl ?_ | refine kl_const rfl rfl (.inl rfl) rfl ?_ | refine kl_const rfl rfl (.inr rfl) rfl ?_) | ((first | refine kl_step rfl rfl rfl fun K hK => ?_ | refine kl_step0 rfl rfl rfl fun K hK => ?_); go_simp; (try go_bits); (first | refine hK _ _ ?_ | refine hK _ ?_); clear hK K))
      exact kq_ret1 rfl rfl ⟨by first | rfl | (simp; exact beq_eq_false_iff_ne.1 S4.out), HL9.out.below⟩
  have t1 : decide ((i : Int) < (n : Int)) = true := by rw [decide_eq_true_eq]; omega
  have t1n : decide (i < n) = true := decide_eq_true hin.1
  have t2 : decide ((i : Int) < 50) = true := by rw [decide_eq_true_eq]; omega
  have t2n : decide (i < 50) = true := decide_eq_true hin.2
  obtain ⟨i1, hi1⟩ : ∃ i1, i + 1 = i1 := ⟨_, rfl⟩
  have i3 : (i : Int) + 1 = (i1 : Int) := by omega
  have i4 : (0 : Int) ≤ i1 := by omega
  have i5 : (i1 : Int) ≤ 51 := by omega
  have i6 : (0 : Int) ≤ i := by omega
  have i7 : (i : Int) < n := by omega
  have hVW := HVA.out.keep (.of_below HL6.out.below)
  have hzl : zs.length = n := by have := hVW.1; simpa using this
  obtain ⟨bA, oA, rfl, hcA⟩ := hVW.2 (by omega)
  have hz0 : zs[i]? = some (zs[i]'(by omega)) := List.getElem?_eq_getElem (by omega)
  obtain ⟨z, hz⟩ : ∃ z, zs[i]'(by omega) = z := ⟨_, rfl⟩
  rw [hz] at hz0
  have cz := hcA i (.int .i64 z) (by rw [List.getElem?_map, hz0]; rfl)
  have hzb := HZS.out z (List.mem_of_getElem? hz0)
  have hw3 := within_lt z 3 (by omega)
  obtain ⟨j', hj'⟩ : ∃ j', within z 3 = j' := ⟨_, rfl⟩
  have HWI := Lib.hid hj'
  rw [hj'] at hw3
  obtain ⟨f3, s1, s2, s3⟩ := I.out.step (by omega) j' (by omega)
  rw [hi1] at s2 s3
  have E3 := Lib.hid s1
  have I3 := Lib.hid s2
  have BE := Lib.hid s3
  have HI := Lib.hid (And.intro hi1 hin)
  have h6 := hf6
  clear hin hi1 hi hi50 hj I s1 s2 s3 hVW hzl hcA hz0 hz hj' hf6
  repeat (first | refine kw_seq ?_ | refine kw_block ?_ | refine kw_region ?_ | refine kl_nil ?_ | refine kq_then ?_ | refine kq_block ?_ | refine kw_ift rfl ?_ | refine kw_skip ?_ | refine kl_ung rfl rfl ?_ | refine kl_skipg rfl rfl rfl rfl ?_ | (first | refine kl_move rfl rfl (.inl rfl) rfl rfl ?_ | refine kl_move rfl rfl (.inr rfl) rfl rfl ?_ | refine kl_const rfl rfl (.inl rfl) rfl ?_ | refine kl_const rfl rfl (.inr rfl) rfl ?_) | ((first | refine kl_step rfl rfl rfl fun K hK => ?_ | refine kl_step0 rfl rfl rfl fun K hK => ?_); go_simp; (try go_bits); (first | refine hK _ _ ?_ | refine hK _ ?_); clear hK K))
  refine kl_call rfl rfl rfl Try.func11 rfl (by kernel_rfl) rfl ?_
  refine Calls.mono (within6_any z 3 3 W rfl (by omega) (by omega)) ?_
  rintro e _ ⟨rfl, rfl⟩
  refine ⟨_, rfl, ?_⟩
  rw [HWI.out]
  clear t1 t1n t2 t2n cz hzb
  repeat (first | refine kw_seq ?_ | refine kw_region ?_ | refine kl_nil ?_ | refine kq_then ?_ | refine kl_build 29 _ (bv z32).toArray rfl rfl rfl (by rfl) (by rfl) hashBuilt0 ?_ | (first | refine kl_move rfl rfl (.inl rfl) rfl rfl ?_ | refine kl_move rfl rfl (.inr rfl) rfl rfl ?_ | refine kl_const rfl rfl (.inl rfl) rfl ?_ | refine kl_const rfl rfl (.inr rfl) rfl ?_))
  refine kl_varL (z := (bv z32).toArray) (cells := (bv z32).toArray) HL6.out hashZero (hash_1 z32 z32_len) rfl (by simp [Value.oneCell', bv]) rfl rfl rfl rfl rfl rfl rfl rfl rfl ?_
  intro g8 w7 hg8 hb7 hL7
  have HN8 : Hid (g8 ≠ g) := by show _ ≠ _; have := h6.lt; omega
  have HAG : Hid (Away g8 (some ⟨ga, 0, none⟩)) := fun x hx => by have := HA6.out.inQ (by omega) x hx; omega
  have HBG : Hid (Away g8 (some ⟨gb, 0, none⟩)) := fun x hx => by have := HB6.out.inQ (by omega) x hx; omega
  have hf7 := h6.below hb7
  have HL7 := Lib.hid hL7
  have HA7 := Lib.hid (HA6.out.below hb7)
  have HB7 := Lib.hid (HB6.out.below hb7)
  clear hg8 hb7 hL7 h6 HL6 HA6 HB6
  rcases (by omega : j' = 0 ∨ j' = 1 ∨ j' = 2) with rfl | rfl | rfl
  · have E3 : Hid (markP f ((0 : Nat) : Int) (sha iA) = (0, f3)) := E3
    have BE : Hid (bootP f3 = (⟨((i1 : Nat) : Int), ((0 : Nat) : Int), (sha iA)⟩, iA)) := BE
    repeat (first | refine kw_seq ?_ | refine kw_region ?_ | refine kl_nil ?_ | refine kq_then ?_ | refine kw_ift rfl ?_ | (first | refine kl_move rfl rfl (.inl rfl) rfl rfl ?_ | refine kl_move rfl rfl (.inr rfl) rfl rfl ?_ | refine kl_const rfl rfl (.inl rfl) rfl ?_ | refine kl_const rfl rfl (.inr rfl) rfl ?_) | ((first | refine kl_step rfl rfl rfl fun K hK => ?_ | refine kl_step0 rfl rfl rfl fun K hK => ?_); go_simp; (try go_bits); (first | refine hK _ _ ?_ | refine hK _ ?_); clear hK K))
    have hbx := (Below.refl w7.heap.size w7).alloc (Nat.le_refl _) (.cells #[.slice (some ⟨ga, 0, none⟩) 3 3, .slice (some ⟨gb, 0, none⟩) 5 5] 32)
    obtain ⟨wx, hwx⟩ : ∃ wx, w7.alloc (.cells #[.slice (some ⟨ga, 0, none⟩) 3 3, .slice (some ⟨gb, 0, none⟩) 5 5] 32) = wx := ⟨_, rfl⟩
    rw [hwx] at hbx ⊢
    clear hwx
    have hfx := hf7.below hbx
    have HLx := Lib.hid (HL7.out.next hbx)
    have HAx := Lib.hid (HA7.out.below hbx)
    have HBx := Lib.hid (HB7.out.below hbx)
    clear hf7 HL7 HA7 HB7 hbx
    refine kl_call rfl rfl rfl Try.func18 rfl (by kernel_rfl) rfl ?_
    refine Calls.mono (refSha_any (some ⟨ga, 0, none⟩) 3 3 iA wx HAx.out (by omega)) ?_
    rintro e wy ⟨rfl, hby⟩
    refine ⟨_, rfl, ?_⟩
    have hfy := hfx.below hby
    have HLy := Lib.hid (HLx.out.next hby)
    have HAy := Lib.hid (HAx.out.below hby)
    have HBy := Lib.hid (HBx.out.below hby)
    clear hfx HLx HAx HBx hby
    refine kl_putL (cells := (bv (sha iA)).toArray) HLy.out 0 rfl (hash_1 (sha iA) (length_sha _)) (by rw [List.size_toArray, List.size_toArray, length_bv, length_bv, z32_len, length_sha _]) (by simp [Value.oneCell', bv]) rfl rfl rfl rfl rfl (fun hLr => ?_)
    have hgr := grown_rowO wy g8 (bv (sha iA)).toArray
    have hfr := hfy.other hgr (Ne.symm HN8.out) (fun _ h => h.elim)
    have HLr := Lib.hid hLr
    have HAr := Lib.hid (HAy.out.grownKeep hgr HAG.out)
    have HBr := Lib.hid (HBy.out.grownKeep hgr HBG.out)
    clear hfy hgr hLr HLy HAy HBy
    generalize wy.setRow g8 (bv (sha iA)).toArray = wr at *
    repeat (first | refine kw_seq ?_ | refine kw_region ?_ | refine kl_nil ?_ | refine kq_then ?_ | refine kw_iff rfl ?_ | refine kw_skip ?_ | refine kl_getL HLr.out 0 rfl Try.underlying29 rfl (hash_1 (sha iA) (length_sha _)) rfl rfl rfl rfl rfl ?_ | (first | refine kl_move rfl rfl (.inl rfl) rfl rfl ?_ | refine kl_move rfl rfl (.inr rfl) rfl rfl ?_ | refine kl_const rfl rfl (.inl rfl) rfl ?_ | refine kl_const rfl rfl (.inr rfl) rfl ?_) | ((first | refine kl_step rfl rfl rfl fun K hK => ?_ | refine kl_step0 rfl rfl rfl fun K hK => ?_); go_simp; (try go_bits); (first | refine hK _ _ ?_ | refine hK _ ?_); clear hK K))
    refine kl_call rfl rfl rfl Try.func13 rfl (by kernel_rfl) rfl ?_
    refine Calls.mono (mark_any NoB g (noB g) f ((0 : Nat) : Int) (sha iA) wr hfr (length_sha _) (by unfold I64; omega)) ?_
    rintro e w8 ⟨rfl, hf8, hg8⟩
    refine ⟨_, rfl, ?_⟩
    rw [E3.out] at hf8 ⊢
    dsimp only at hf8 ⊢
    have HL8 := Lib.hid (HLr.out.grown hg8 HG.out (fun p hp => by simp at hp; subst hp; exact HN8.out))
    have HA8 := Lib.hid (HAr.out.grownKeep0 hg8 AWA.out)
    have HB8 := Lib.hid (HBr.out.grownKeep0 hg8 AWB.out)
    clear hg8 hfr HLr HAr HBr
    repeat (first | refine kw_seq ?_ | refine kw_region ?_ | refine kl_nil ?_ | refine kq_then ?_ | refine kw_iff rfl ?_ | refine kw_skip ?_ | refine kw_block ?_ | refine kl_ung rfl rfl ?_ | refine kl_skipg rfl rfl rfl rfl ?_ | (first | refine kl_move rfl rfl (.inl rfl) rfl rfl ?_ | refine kl_move rfl rfl (.inr rfl) rfl rfl ?_ | refine kl_const rfl rfl (.inl rfl) rfl ?_ | refine kl_const rfl rfl (.inr rfl) rfl ?_) | ((first | refine kl_step rfl rfl rfl fun K hK => ?_ | refine kl_step0 rfl rfl rfl fun K hK => ?_); go_simp; (try go_bits); (first | refine hK _ _ ?_ | refine hK _ ?_); clear hK K))
    have hL8 := HL8.out
    refine kl_call rfl rfl rfl Try.func14 rfl (by kernel_rfl) rfl ?_
    refine Calls.mono (boot_any NoB g f3 w8 hf8) ?_
    rintro e wb9 ⟨A9, n9, c9, rfl, hB9, hT9, hn9, hc9, hb9⟩
    refine ⟨_, rfl, ?_⟩
    rw [BE.out] at hB9 ⊢
    dsimp only at hB9 ⊢
    have hf9 := hf8.below hb9
    have hL9 := hL8.next hb9
    have hNB9 := hB9.len
    have HAW9 := Lib.hid (boot_away hf9 hB9 hT9)
    clear hT9
    have HA9m := HA8.out.keep (.of_below hb9)
    have HB9xm := HB8.out.keep (.of_below hb9)
    clear hb9
    repeat (first | (first | refine kl_move rfl rfl (.inl rfl) rfl rfl ?_ | refine kl_move rfl rfl (.inr rfl) rfl rfl ?_ | refine kl_const rfl rfl (.inl rfl) rfl ?_ | refine kl_const rfl rfl (.inr rfl) rfl ?_) | ((first | refine kl_step rfl rfl rfl fun K hK => ?_ | refine kl_step0 rfl rfl rfl fun K hK => ?_); go_simp; (try go_bits); (first | refine hK _ _ ?_ | refine hK _ ?_); clear hK K))
    refine kl_varL (z := (entC entZ).toArray) (cells := (entC ⟨((i1 : Nat) : Int), ((0 : Nat) : Int), (sha iA)⟩).toArray) hL9 entZero (entInfo ⟨((i1 : Nat) : Int), ((0 : Nat) : Int), (sha iA)⟩ (length_sha _)) (by rw [List.size_toArray, List.size_toArray, entC_len entZ z32_len, entC_len ⟨((i1 : Nat) : Int), ((0 : Nat) : Int), (sha iA)⟩ (length_sha _)]) (ent_one ⟨((i1 : Nat) : Int), ((0 : Nat) : Int), (sha iA)⟩) rfl rfl rfl rfl rfl rfl rfl rfl rfl ?_
    intro ge9 wv9 hge9 hbv9 hL9'
    have hf9' := hf9.below hbv9
    have hB9' := hB9.keep (.of_below hbv9)
    have HA9 := Lib.hid (HA9m.keep (.of_below hbv9))
    clear HA9m HA8
    have HB9x := Lib.hid (HB9xm.keep (.of_below hbv9))
    clear HB9xm HB8
    have HNE9 : Hid (ge9 ≠ g) := by show _ ≠ _; have := hf9.lt; omega
    clear hge9 hbv9 hf9 hL9 hB9
    have hbz : Below wv9.heap.size wv9 (wv9.alloc (.cells #[.string ⟨#[111, 110, 101]⟩, .string ⟨#[111, 116, 104, 101, 114]⟩] 9)) := (Below.refl wv9.heap.size wv9).alloc (Nat.le_refl _) (.cells #[.string ⟨#[111, 110, 101]⟩, .string ⟨#[111, 116, 104, 101, 114]⟩] 9)
    have q1 := row_slot ((hL9'.next hbz).at_ 0 rfl)
    have q2 := row_seq ((hL9'.next hbz).at_ 0 rfl)
    have k1 := convB (c := c9) (hB9'.below hbz)
    have HLz : Hid (Lay w (wv9.alloc (.cells #[.string ⟨#[111, 110, 101]⟩, .string ⟨#[111, 116, 104, 101, 114]⟩] 9)) []) := ⟨(hL9'.next hbz).below, trivial⟩
    have hfz := hf9'.below hbz
    have HAz := Lib.hid (HA9.out.below hbz)
    have HBz := Lib.hid (HB9x.out.below hbz)
    clear HB9x hL9' hf8 HL8 hL8 hB9' hNB9 HAW9 HNE9 hbz hf9' HA9
    dsimp only at q1 q2
    have s1 : ((⟨List.toArray iA⟩ : ByteArray) == ⟨List.toArray iA⟩) = true := by decide
    have s2 : ((⟨List.toArray iA⟩ : ByteArray) != ⟨List.toArray iA⟩) = false := by decide
    repeat (first | refine kw_seq ?_ | refine kw_region ?_ | refine kl_nil ?_ | refine kq_then ?_ | refine kq_block ?_ | refine kw_ift rfl ?_ | refine kw_iff rfl ?_ | refine kw_skip ?_ | refine kl_ung rfl rfl ?_ | (first | refine kl_move rfl rfl (.inl rfl) rfl rfl ?_ | refine kl_move rfl rfl (.inr rfl) rfl rfl ?_ | refine kl_const rfl rfl (.inl rfl) rfl ?_ | refine kl_const rfl rfl (.inr rfl) rfl ?_) | ((first | refine kl_step rfl rfl rfl fun K hK => ?_ | refine kl_step0 rfl rfl rfl fun K hK => ?_); go_simp; (try go_bits); (first | refine hK _ _ ?_ | refine hK _ ?_); clear hK K))
    refine kq_again (n - i1) [0, 3, 4, 5, 6, 7] (by have := HI.out; omega) ?_
    simp only [nrm, lk, Nat.reduceBEq, cond_true, cond_false]
    exact ⟨i1, f3, 0, by have := HI.out; omega, rfl, by have := HI.out; omega, by omega, I3, HLz, hfz, HAz, HBz, rfl⟩
  · have E3 : Hid (markP f ((1 : Nat) : Int) (sha iB) = (0, f3)) := E3
    have BE : Hid (bootP f3 = (⟨((i1 : Nat) : Int), ((1 : Nat) : Int), (sha iB)⟩, iB)) := BE
    repeat (first | refine kw_seq ?_ | refine kw_region ?_ | refine kl_nil ?_ | refine kq_then ?_ | refine kw_ift rfl ?_ | (first | refine kl_move rfl rfl (.inl rfl) rfl rfl ?_ | refine kl_move rfl rfl (.inr rfl) rfl rfl ?_ | refine kl_const rfl rfl (.inl rfl) rfl ?_ | refine kl_const rfl rfl (.inr rfl) rfl ?_) | ((first | refine kl_step rfl rfl rfl fun K hK => ?_ | refine kl_step0 rfl rfl rfl fun K hK => ?_); go_simp; (try go_bits); (first | refine hK _ _ ?_ | refine hK _ ?_); clear hK K))
    have hbx := (Below.refl w7.heap.size w7).alloc (Nat.le_refl _) (.cells #[.slice (some ⟨ga, 0, none⟩) 3 3, .slice (some ⟨gb, 0, none⟩) 5 5] 32)
    obtain ⟨wx, hwx⟩ : ∃ wx, w7.alloc (.cells #[.slice (some ⟨ga, 0, none⟩) 3 3, .slice (some ⟨gb, 0, none⟩) 5 5] 32) = wx := ⟨_, rfl⟩
    rw [hwx] at hbx ⊢
    clear hwx
    have hfx := hf7.below hbx
    have HLx := Lib.hid (HL7.out.next hbx)
    have HAx := Lib.hid (HA7.out.below hbx)
    have HBx := Lib.hid (HB7.out.below hbx)
    clear hf7 HL7 HA7 HB7 hbx
    refine kl_call rfl rfl rfl Try.func18 rfl (by kernel_rfl) rfl ?_
    refine Calls.mono (refSha_any (some ⟨gb, 0, none⟩) 5 5 iB wx HBx.out (by omega)) ?_
    rintro e wy ⟨rfl, hby⟩
    refine ⟨_, rfl, ?_⟩
    have hfy := hfx.below hby
    have HLy := Lib.hid (HLx.out.next hby)
    have HAy := Lib.hid (HAx.out.below hby)
    have HBy := Lib.hid (HBx.out.below hby)
    clear hfx HLx HAx HBx hby
    refine kl_putL (cells := (bv (sha iB)).toArray) HLy.out 0 rfl (hash_1 (sha iB) (length_sha _)) (by rw [List.size_toArray, List.size_toArray, length_bv, length_bv, z32_len, length_sha _]) (by simp [Value.oneCell', bv]) rfl rfl rfl rfl rfl (fun hLr => ?_)
    have hgr := grown_rowO wy g8 (bv (sha iB)).toArray
    have hfr := hfy.other hgr (Ne.symm HN8.out) (fun _ h => h.elim)
    have HLr := Lib.hid hLr
    have HAr := Lib.hid (HAy.out.grownKeep hgr HAG.out)
    have HBr := Lib.hid (HBy.out.grownKeep hgr HBG.out)
    clear hfy hgr hLr HLy HAy HBy
    generalize wy.setRow g8 (bv (sha iB)).toArray = wr at *
    repeat (first | refine kw_seq ?_ | refine kw_region ?_ | refine kl_nil ?_ | refine kq_then ?_ | refine kw_iff rfl ?_ | refine kw_skip ?_ | refine kl_getL HLr.out 0 rfl Try.underlying29 rfl (hash_1 (sha iB) (length_sha _)) rfl rfl rfl rfl rfl ?_ | (first | refine kl_move rfl rfl (.inl rfl) rfl rfl ?_ | refine kl_move rfl rfl (.inr rfl) rfl rfl ?_ | refine kl_const rfl rfl (.inl rfl) rfl ?_ | refine kl_const rfl rfl (.inr rfl) rfl ?_) | ((first | refine kl_step rfl rfl rfl fun K hK => ?_ | refine kl_step0 rfl rfl rfl fun K hK => ?_); go_simp; (try go_bits); (first | refine hK _ _ ?_ | refine hK _ ?_); clear hK K))
    refine kl_call rfl rfl rfl Try.func13 rfl (by kernel_rfl) rfl ?_
    refine Calls.mono (mark_any NoB g (noB g) f ((1 : Nat) : Int) (sha iB) wr hfr (length_sha _) (by unfold I64; omega)) ?_
    rintro e w8 ⟨rfl, hf8, hg8⟩
    refine ⟨_, rfl, ?_⟩
    rw [E3.out] at hf8 ⊢
    dsimp only at hf8 ⊢
    have HL8 := Lib.hid (HLr.out.grown hg8 HG.out (fun p hp => by simp at hp; subst hp; exact HN8.out))
    have HA8 := Lib.hid (HAr.out.grownKeep0 hg8 AWA.out)
    have HB8 := Lib.hid (HBr.out.grownKeep0 hg8 AWB.out)
    clear hg8 hfr HLr HAr HBr
    repeat (first | refine kw_seq ?_ | refine kw_region ?_ | refine kl_nil ?_ | refine kq_then ?_ | refine kw_iff rfl ?_ | refine kw_skip ?_ | refine kw_block ?_ | refine kl_ung rfl rfl ?_ | refine kl_skipg rfl rfl rfl rfl ?_ | (first | refine kl_move rfl rfl (.inl rfl) rfl rfl ?_ | refine kl_move rfl rfl (.inr rfl) rfl rfl ?_ | refine kl_const rfl rfl (.inl rfl) rfl ?_ | refine kl_const rfl rfl (.inr rfl) rfl ?_) | ((first | refine kl_step rfl rfl rfl fun K hK => ?_ | refine kl_step0 rfl rfl rfl fun K hK => ?_); go_simp; (try go_bits); (first | refine hK _ _ ?_ | refine hK _ ?_); clear hK K))
    have hL8 := HL8.out
    refine kl_call rfl rfl rfl Try.func14 rfl (by kernel_rfl) rfl ?_
    refine Calls.mono (boot_any NoB g f3 w8 hf8) ?_
    rintro e wb9 ⟨A9, n9, c9, rfl, hB9, hT9, hn9, hc9, hb9⟩
    refine ⟨_, rfl, ?_⟩
    rw [BE.out] at hB9 ⊢
    dsimp only at hB9 ⊢
    have hf9 := hf8.below hb9
    have hL9 := hL8.next hb9
    have hNB9 := hB9.len
    have HAW9 := Lib.hid (boot_away hf9 hB9 hT9)
    clear hT9
    have HA9m := HA8.out.keep (.of_below hb9)
    have HB9xm := HB8.out.keep (.of_below hb9)
    clear hb9
    repeat (first | (first | refine kl_move rfl rfl (.inl rfl) rfl rfl ?_ | refine kl_move rfl rfl (.inr rfl) rfl rfl ?_ | refine kl_const rfl rfl (.inl rfl) rfl ?_ | refine kl_const rfl rfl (.inr rfl) rfl ?_) | ((first | refine kl_step rfl rfl rfl fun K hK => ?_ | refine kl_step0 rfl rfl rfl fun K hK => ?_); go_simp; (try go_bits); (first | refine hK _ _ ?_ | refine hK _ ?_); clear hK K))
    refine kl_varL (z := (entC entZ).toArray) (cells := (entC ⟨((i1 : Nat) : Int), ((1 : Nat) : Int), (sha iB)⟩).toArray) hL9 entZero (entInfo ⟨((i1 : Nat) : Int), ((1 : Nat) : Int), (sha iB)⟩ (length_sha _)) (by rw [List.size_toArray, List.size_toArray, entC_len entZ z32_len, entC_len ⟨((i1 : Nat) : Int), ((1 : Nat) : Int), (sha iB)⟩ (length_sha _)]) (ent_one ⟨((i1 : Nat) : Int), ((1 : Nat) : Int), (sha iB)⟩) rfl rfl rfl rfl rfl rfl rfl rfl rfl ?_
    intro ge9 wv9 hge9 hbv9 hL9'
    have hf9' := hf9.below hbv9
    have hB9' := hB9.keep (.of_below hbv9)
    have HA9 := Lib.hid (HA9m.keep (.of_below hbv9))
    clear HA9m HA8
    have HB9x := Lib.hid (HB9xm.keep (.of_below hbv9))
    clear HB9xm HB8
    have HNE9 : Hid (ge9 ≠ g) := by show _ ≠ _; have := hf9.lt; omega
    clear hge9 hbv9 hf9 hL9 hB9
    have hbz : Below wv9.heap.size wv9 (wv9.alloc (.cells #[.string ⟨#[111, 110, 101]⟩, .string ⟨#[111, 116, 104, 101, 114]⟩] 9)) := (Below.refl wv9.heap.size wv9).alloc (Nat.le_refl _) (.cells #[.string ⟨#[111, 110, 101]⟩, .string ⟨#[111, 116, 104, 101, 114]⟩] 9)
    have q1 := row_slot ((hL9'.next hbz).at_ 0 rfl)
    have q2 := row_seq ((hL9'.next hbz).at_ 0 rfl)
    have k1 := convB (c := c9) (hB9'.below hbz)
    have HLz : Hid (Lay w (wv9.alloc (.cells #[.string ⟨#[111, 110, 101]⟩, .string ⟨#[111, 116, 104, 101, 114]⟩] 9)) []) := ⟨(hL9'.next hbz).below, trivial⟩
    have hfz := hf9'.below hbz
    have HAz := Lib.hid (HA9.out.below hbz)
    have HBz := Lib.hid (HB9x.out.below hbz)
    clear HB9x hL9' hf8 HL8 hL8 hB9' hNB9 HAW9 HNE9 hbz hf9' HA9
    dsimp only at q1 q2
    have s1 : ((⟨List.toArray iB⟩ : ByteArray) == ⟨List.toArray iB⟩) = true := by decide
    have s2 : ((⟨List.toArray iB⟩ : ByteArray) != ⟨List.toArray iB⟩) = false := by decide
    repeat (first | refine kw_seq ?_ | refine kw_region ?_ | refine kl_nil ?_ | refine kq_then ?_ | refine kq_block ?_ | refine kw_ift rfl ?_ | refine kw_iff rfl ?_ | refine kw_skip ?_ | refine kl_ung rfl rfl ?_ | (first | refine kl_move rfl rfl (.inl rfl) rfl rfl ?_ | refine kl_move rfl rfl (.inr rfl) rfl rfl ?_ | refine kl_const rfl rfl (.inl rfl) rfl ?_ | refine kl_const rfl rfl (.inr rfl) rfl ?_) | ((first | refine kl_step rfl rfl rfl fun K hK => ?_ | refine kl_step0 rfl rfl rfl fun K hK => ?_); go_simp; (try go_bits); (first | refine hK _ _ ?_ | refine hK _ ?_); clear hK K))
    refine kq_again (n - i1) [0, 3, 4, 5, 6, 7] (by have := HI.out; omega) ?_
    simp only [nrm, lk, Nat.reduceBEq, cond_true, cond_false]
    exact ⟨i1, f3, 1, by have := HI.out; omega, rfl, by have := HI.out; omega, by omega, I3, HLz, hfz, HAz, HBz, rfl⟩
  · have E3 : Hid (markP f ((2 : Nat) : Int) z32 = (0, f3)) := E3
    have BE : Hid (bootP f3 = (⟨((i1 : Nat) : Int), ((2 : Nat) : Int), z32⟩, [])) := BE
    repeat (first | refine kw_seq ?_ | refine kw_region ?_ | refine kl_nil ?_ | refine kq_then ?_ | refine kw_iff rfl ?_ | refine kw_skip ?_ | refine kl_getL HL7.out 0 rfl Try.underlying29 rfl (hash_1 z32 z32_len) rfl rfl rfl rfl rfl ?_ | (first | refine kl_move rfl rfl (.inl rfl) rfl rfl ?_ | refine kl_move rfl rfl (.inr rfl) rfl rfl ?_ | refine kl_const rfl rfl (.inl rfl) rfl ?_ | refine kl_const rfl rfl (.inr rfl) rfl ?_) | ((first | refine kl_step rfl rfl rfl fun K hK => ?_ | refine kl_step0 rfl rfl rfl fun K hK => ?_); go_simp; (try go_bits); (first | refine hK _ _ ?_ | refine hK _ ?_); clear hK K))
    refine kl_call rfl rfl rfl Try.func13 rfl (by kernel_rfl) rfl ?_
    refine Calls.mono (mark_any NoB g (noB g) f ((2 : Nat) : Int) z32 w7 hf7 (z32_len) (by unfold I64; omega)) ?_
    rintro e w8 ⟨rfl, hf8, hg8⟩
    refine ⟨_, rfl, ?_⟩
    rw [E3.out] at hf8 ⊢
    dsimp only at hf8 ⊢
    have HL8 := Lib.hid (HL7.out.grown hg8 HG.out (fun p hp => by simp at hp; subst hp; exact HN8.out))
    have HA8 := Lib.hid (HA7.out.grownKeep0 hg8 AWA.out)
    have HB8 := Lib.hid (HB7.out.grownKeep0 hg8 AWB.out)
    clear hg8 hf7 HL7 HA7 HB7
    repeat (first | refine kw_seq ?_ | refine kw_region ?_ | refine kl_nil ?_ | refine kq_then ?_ | refine kw_iff rfl ?_ | refine kw_skip ?_ | refine kw_block ?_ | refine kl_ung rfl rfl ?_ | refine kl_skipg rfl rfl rfl rfl ?_ | (first | refine kl_move rfl rfl (.inl rfl) rfl rfl ?_ | refine kl_move rfl rfl (.inr rfl) rfl rfl ?_ | refine kl_const rfl rfl (.inl rfl) rfl ?_ | refine kl_const rfl rfl (.inr rfl) rfl ?_) | ((first | refine kl_step rfl rfl rfl fun K hK => ?_ | refine kl_step0 rfl rfl rfl fun K hK => ?_); go_simp; (try go_bits); (first | refine hK _ _ ?_ | refine hK _ ?_); clear hK K))
    have hL8 := HL8.out
    refine kl_call rfl rfl rfl Try.func14 rfl (by kernel_rfl) rfl ?_
    refine Calls.mono (boot_any NoB g f3 w8 hf8) ?_
    rintro e wb9 ⟨A9, n9, c9, rfl, hB9, hT9, hn9, hc9, hb9⟩
    refine ⟨_, rfl, ?_⟩
    rw [BE.out] at hB9 ⊢
    dsimp only at hB9 ⊢
    have hf9 := hf8.below hb9
    have hL9 := hL8.next hb9
    have hNB9 := hB9.len
    have HAW9 := Lib.hid (boot_away hf9 hB9 hT9)
    clear hT9
    have HA9m := HA8.out.keep (.of_below hb9)
    have HB9xm := HB8.out.keep (.of_below hb9)
    clear hb9
    repeat (first | (first | refine kl_move rfl rfl (.inl rfl) rfl rfl ?_ | refine kl_move rfl rfl (.inr rfl) rfl rfl ?_ | refine kl_const rfl rfl (.inl rfl) rfl ?_ | refine kl_const rfl rfl (.inr rfl) rfl ?_) | ((first | refine kl_step rfl rfl rfl fun K hK => ?_ | refine kl_step0 rfl rfl rfl fun K hK => ?_); go_simp; (try go_bits); (first | refine hK _ _ ?_ | refine hK _ ?_); clear hK K))
    refine kl_varL (z := (entC entZ).toArray) (cells := (entC ⟨((i1 : Nat) : Int), ((2 : Nat) : Int), z32⟩).toArray) hL9 entZero (entInfo ⟨((i1 : Nat) : Int), ((2 : Nat) : Int), z32⟩ (z32_len)) (by rw [List.size_toArray, List.size_toArray, entC_len entZ z32_len, entC_len ⟨((i1 : Nat) : Int), ((2 : Nat) : Int), z32⟩ (z32_len)]) (ent_one ⟨((i1 : Nat) : Int), ((2 : Nat) : Int), z32⟩) rfl rfl rfl rfl rfl rfl rfl rfl rfl ?_
    intro ge9 wv9 hge9 hbv9 hL9'
    have hf9' := hf9.below hbv9
    have hB9' := hB9.keep (.of_below hbv9)
    have HA9 := Lib.hid (HA9m.keep (.of_below hbv9))
    clear HA9m HA8
    have HB9x := Lib.hid (HB9xm.keep (.of_below hbv9))
    clear HB9xm HB8
    have HNE9 : Hid (ge9 ≠ g) := by show _ ≠ _; have := hf9.lt; omega
    clear hge9 hbv9 hf9 hL9 hB9
    have q1 := row_slot (hL9'.at_ 0 rfl)
    have q2 := row_seq (hL9'.at_ 0 rfl)
    have k1 := convB (c := c9) hB9'
    have HLz : Hid (Lay w wv9 []) := ⟨hL9'.below, trivial⟩
    have HBz := HB9x
    have HAz := HA9
    have hfz := hf9'
    clear HB9x hL9' hf8 HL8 hL8 hB9' hNB9 HAW9 HNE9 hf9' HA9
    dsimp only at q1 q2
    have s1 : ((⟨List.toArray []⟩ : ByteArray) == ⟨List.toArray []⟩) = true := by decide
    have s2 : ((⟨List.toArray []⟩ : ByteArray) != ⟨List.toArray []⟩) = false := by decide
    repeat (first | refine kw_seq ?_ | refine kw_region ?_ | refine kl_nil ?_ | refine kq_then ?_ | refine kq_block ?_ | refine kw_ift rfl ?_ | refine kw_iff rfl ?_ | refine kw_skip ?_ | refine kl_ung rfl rfl ?_ | (first | refine kl_move rfl rfl (.inl rfl) rfl rfl ?_ | refine kl_move rfl rfl (.inr rfl) rfl rfl ?_ | refine kl_const rfl rfl (.inl rfl) rfl ?_ | refine kl_const rfl rfl (.inr rfl) rfl ?_) | ((first | refine kl_step rfl rfl rfl fun K hK => ?_ | refine kl_step0 rfl rfl rfl fun K hK => ?_); go_simp; (try go_bits); (first | refine hK _ _ ?_ | refine hK _ ?_); clear hK K))
    refine kq_again (n - i1) [0, 3, 4, 5, 6, 7] (by have := HI.out; omega) ?_
    simp only [nrm, lk, Nat.reduceBEq, cond_true, cond_false]
    exact ⟨i1, f3, 2, by have := HI.out; omega, rfl, by have := HI.out; omega, by omega, I3, HLz, hfz, HAz, HBz, rfl⟩
end Go.Proofs.Ytkncomkncfcecaa
