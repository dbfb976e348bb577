/- RetainAgain: the walk. -/
import Derived.Test.YtcpifcdndhhmgaaRetAgP
import Derived.Test.YtcpifcdndhhmgaaRetRd
set_option linter.unusedVariables false
set_option linter.unusedSimpArgs false
namespace Go.Proofs.Ytcpifcdndhhmgaa
open Go.RowKit
attribute [local go_sem] ev_tmp ev_const ev_func ev_global lk_hit lk_miss uponK_value uponK_skip look_tmp look_const look_global look_func valP_value
set_option maxRecDepth 100000 in
set_option maxHeartbeats 4000000 in
theorem retainAgain_top (z y v : Int) (w : World) (_ : -9223372036854775808 ≤ z ∧ z ≤ 9223372036854775807) (_ : -9223372036854775808 ≤ y ∧ y ≤ 9223372036854775807) (_ : -9223372036854775808 ≤ v ∧ v ≤ 9223372036854775807) :
    Calls Try.prog 3 #[.int .i64 z, .int .i64 y, .int .i64 v] w fun e w' => e = .returned (.bool true) ∧ Below w.heap.size w w' := by
  refine calls_kw Try.func3 rfl Try.ntmps3 rfl [(0, .int .i64 z), (1, .int .i64 y), (2, .int .i64 v)] rfl ?_
  repeat (first | refine kw_seq ?_ | refine kw_region ?_ | refine kl_nil ?_ | refine kq_then ?_ | refine kw_iff rfl ?_ | refine kw_skip ?_ | refine kw_block ?_ | refine kl_ung rfl rfl ?_ | refine kl_skipg rfl rfl rfl rfl ?_ | (first | refine kl_move rfl rfl (.inl rfl) rfl rfl ?_ | refine kl_move rfl rfl (.inr rfl) rfl rfl ?_ | refine kl_const rfl rfl (.inl rfl) rfl ?_ | refine kl_const rfl rfl (.inr rfl) rfl ?_) | ((first | refine kl_step rfl rfl rfl fun K hK => ?_ | refine kl_step0 rfl rfl rfl fun K hK => ?_); go_simp; (try go_bits); (first | refine hK _ _ ?_ | refine hK _ ?_); clear hK K))
  refine kl_call rfl rfl rfl Try.func8 rfl (by kernel_rfl) rfl ?_
  refine Calls.mono (known16_any w) ?_
  rintro e w0 ⟨rfl, hb0⟩
  refine ⟨_, rfl, ?_⟩
  repeat (first | refine kw_seq ?_ | refine kw_region ?_ | refine kl_nil ?_ | refine kq_then ?_ | refine kw_iff rfl ?_ | refine kw_skip ?_ | refine kw_block ?_ | refine kl_ung rfl rfl ?_ | refine kl_skipg rfl rfl rfl rfl ?_ | (first | refine kl_move rfl rfl (.inl rfl) rfl rfl ?_ | refine kl_move rfl rfl (.inr rfl) rfl rfl ?_ | refine kl_const rfl rfl (.inl rfl) rfl ?_ | refine kl_const rfl rfl (.inr rfl) rfl ?_) | ((first | refine kl_step rfl rfl rfl fun K hK => ?_ | refine kl_step0 rfl rfl rfl fun K hK => ?_); go_simp; (try go_bits); (first | refine hK _ _ ?_ | refine hK _ ?_); clear hK K))
  refine kl_call rfl rfl rfl Try.func9 rfl (by kernel_rfl) rfl ?_
  refine Calls.mono (within_any z 60 60 w0 rfl (by omega) (by omega)) ?_
  rintro e _ ⟨rfl, rfl⟩
  refine ⟨_, rfl, ?_⟩
  repeat (first | refine kw_seq ?_ | refine kw_region ?_ | refine kl_nil ?_ | refine kq_then ?_ | refine kw_iff rfl ?_ | refine kw_skip ?_ | refine kw_block ?_ | refine kl_ung rfl rfl ?_ | refine kl_skipg rfl rfl rfl rfl ?_ | (first | refine kl_move rfl rfl (.inl rfl) rfl rfl ?_ | refine kl_move rfl rfl (.inr rfl) rfl rfl ?_ | refine kl_const rfl rfl (.inl rfl) rfl ?_ | refine kl_const rfl rfl (.inr rfl) rfl ?_) | ((first | refine kl_step rfl rfl rfl fun K hK => ?_ | refine kl_step0 rfl rfl rfl fun K hK => ?_); go_simp; (try go_bits); (first | refine hK _ _ ?_ | refine hK _ ?_); clear hK K))
  refine kl_call rfl rfl rfl Try.func9 rfl (by kernel_rfl) rfl ?_
  refine Calls.mono (within_any y 25 25 w0 rfl (by omega) (by omega)) ?_
  rintro e _ ⟨rfl, rfl⟩
  refine ⟨_, rfl, ?_⟩
  have hn := within_lt z 60 (by omega)
  have hc := within_lt y 25 (by omega)
  obtain ⟨n, hn'⟩ : ∃ n, within z 60 = n := ⟨_, rfl⟩
  obtain ⟨c, hc'⟩ : ∃ c, within y 25 = c := ⟨_, rfl⟩
  rw [hn'] at hn ⊢
  rw [hc'] at hc ⊢
  have HN := Lib.hid hn
  have HC := Lib.hid hc
  clear hn' hn hc' hc
  repeat (first | refine kw_seq ?_ | refine kw_region ?_ | refine kl_nil ?_ | refine kq_then ?_ | refine kw_iff rfl ?_ | refine kw_skip ?_ | refine kw_block ?_ | refine kl_ung rfl rfl ?_ | refine kl_skipg rfl rfl rfl rfl ?_ | (first | refine kl_move rfl rfl (.inl rfl) rfl rfl ?_ | refine kl_move rfl rfl (.inr rfl) rfl rfl ?_ | refine kl_const rfl rfl (.inl rfl) rfl ?_ | refine kl_const rfl rfl (.inr rfl) rfl ?_) | ((first | refine kl_step rfl rfl rfl fun K hK => ?_ | refine kl_step0 rfl rfl rfl fun K hK => ?_); go_simp; (try go_bits); (first | refine hK _ _ ?_ | refine hK _ ?_); clear hK K))
  refine kl_call rfl rfl rfl Try.func10 rfl (by kernel_rfl) rfl ?_
  refine Calls.mono (new_any w0) ?_
  rintro e w1 ⟨rfl, hf1, hb1⟩
  refine ⟨_, rfl, ?_⟩
  obtain ⟨g, hg⟩ : ∃ g, w0.heap.size = g := ⟨_, rfl⟩
  have HG : Hid (w.heap.size ≤ g) := by show _ ≤ _; have := hb0.size; omega
  rw [hg] at hf1 ⊢
  have hf1 : FS NoB w1 g newF := hf1
  have HB1 := Lib.hid (below_then hb0 hb1 hb0.size)
  have I0 := Lib.hid again_start
  clear hg hb1 hb0
  repeat (first | refine kw_seq ?_ | refine kw_region ?_ | refine kl_nil ?_ | refine kq_then ?_ | refine kw_iff rfl ?_ | refine kw_skip ?_ | refine kl_ung rfl rfl ?_ | refine kl_skipg rfl rfl rfl rfl ?_ | (first | refine kl_move rfl rfl (.inl rfl) rfl rfl ?_ | refine kl_move rfl rfl (.inr rfl) rfl rfl ?_ | refine kl_const rfl rfl (.inl rfl) rfl ?_ | refine kl_const rfl rfl (.inr rfl) rfl ?_) | ((first | refine kl_step rfl rfl rfl fun K hK => ?_ | refine kl_step0 rfl rfl rfl fun K hK => ?_); go_simp; (try go_bits); (first | refine hK _ _ ?_ | refine hK _ ?_); clear hK K))
  refine KW.less [0, 1, 2, 7, 8] ?_
  simp only [nrm, lk, Nat.reduceBEq, cond_true, cond_false]
  refine kw_block ?_
  refine kw_loop (fun mm L W => ∃ (i : Nat) (f : FlashSt), i ≤ n ∧ mm = n - i ∧ Hid (AInv i f) ∧ Hid (Below w.heap.size w W) ∧ FS NoB W g f ∧ L = [(0, .int .i64 (n : Int)), (1, .int .i64 (c : Int)), (2, .int .i64 v), (7, .pointer (some ⟨g, 0, none⟩)), (8, .int .i64 (i : Int))]) ⟨0, newF, by omega, rfl, I0, HB1, hf1, rfl⟩ ?_
  clear I0 HB1 hf1
  rintro mm L W ⟨i, f, hi, rfl, I, HBW, hf, rfl⟩
  by_cases hin : i < n
  case pos =>
    have t1 : decide ((i : Int) < (n : Int)) = true := by rw [decide_eq_true_eq]; omega
    have t1n : decide (i < n) = true := decide_eq_true hin
    obtain ⟨i1, hi1⟩ : ∃ i1, i + 1 = i1 := ⟨_, rfl⟩
    have i3 : (i : Int) + 1 = (i1 : Int) := by omega
    have i4 : (0 : Int) ≤ i1 := by omega
    have i5 : (i1 : Int) ≤ 61 := by have := HN.out; omega
    have i6 : (0 : Int) ≤ i := by omega
    obtain ⟨f3, s1, s2, sx, s3⟩ := I.out.step (by have := HN.out; omega) (rowOf (itA v i) c) (rowOf_ok _ c i (by have := HC.out; omega) (by have := HN.out; omega) (fun j _ => itA_ok v i j)) (rowOf_bytes _ c _ (by have := HC.out; omega) (fun j => rfl))
    have HKV : Hid (KepV (rowOf (itA v i) c)) := CkOk.kv (rowOf_ok (itA v i) c i (by have := HC.out; omega) (by have := HN.out; omega) (fun j _ => itA_ok v i j))
    rw [hi1] at s2 s3
    have E3 := Lib.hid s1
    have I3 := Lib.hid s2
    have N3 := Lib.hid s3
    have HI := Lib.hid (And.intro hi1 hin)
    have hM0 : Hid (RowM w W g W.heap.size f (.slice none 0 0) 0 []) := ⟨hf, World.ownsRow_nil _ _ _ _, hf.lt, Nat.le_refl _, HG.out, HBW.out⟩
    obtain ⟨B, hB⟩ : ∃ B, W.heap.size = B := ⟨_, rfl⟩
    rw [hB] at hM0
    clear s1 s2 s3 I hi1 hin hi hf HBW hB
    repeat (first | refine kw_seq ?_ | refine kw_region ?_ | refine kl_nil ?_ | refine kq_then ?_ | refine kw_ift rfl ?_ | refine kw_skip ?_ | (first | refine kl_move rfl rfl (.inl rfl) rfl rfl ?_ | refine kl_move rfl rfl (.inr rfl) rfl rfl ?_ | refine kl_const rfl rfl (.inl rfl) rfl ?_ | refine kl_const rfl rfl (.inr rfl) rfl ?_) | ((first | refine kl_step rfl rfl rfl fun K hK => ?_ | refine kl_step0 rfl rfl rfl fun K hK => ?_); go_simp; (try go_bits); (first | refine hK _ _ ?_ | refine hK _ ?_); clear hK K))
    refine kw_block ?_
    repeat (first | refine kw_seq ?_ | refine kw_region ?_ | refine kl_nil ?_ | refine kq_then ?_ | refine kw_iff rfl ?_ | refine kw_skip ?_ | refine kl_ung rfl rfl ?_ | refine kl_skipg rfl rfl rfl rfl ?_ | (first | refine kl_move rfl rfl (.inl rfl) rfl rfl ?_ | refine kl_move rfl rfl (.inr rfl) rfl rfl ?_ | refine kl_const rfl rfl (.inl rfl) rfl ?_ | refine kl_const rfl rfl (.inr rfl) rfl ?_) | ((first | refine kl_step rfl rfl rfl fun K hK => ?_ | refine kl_step0 rfl rfl rfl fun K hK => ?_); go_simp; (try go_bits); (first | refine hK _ _ ?_ | refine hK _ ?_); clear hK K))
    refine KW.less [0, 1, 2, 7, 8, 9, 10] ?_
    simp only [nrm, lk, Nat.reduceBEq, cond_true, cond_false]
    clear t1 t1n
    refine kw_block ?_
    refine kw_loop (fun mm L W => ∃ (j : Nat) (vv : Value), j ≤ c ∧ mm = c - j ∧ Hid (RowM w W g B f vv j (rowOf (itA v i) j)) ∧ L = [(0, .int .i64 (n : Int)), (1, .int .i64 (c : Int)), (2, .int .i64 v), (7, .pointer (some ⟨g, 0, none⟩)), (8, .int .i64 (i : Int)), (9, vv), (10, .int .i64 (j : Int))]) ⟨0, .slice none 0 0, by omega, rfl, hM0, rfl⟩ ?_
    clear hM0
    rintro mm L W2 ⟨j, vv, hj, rfl, hM, rfl⟩
    by_cases hjn : j < c
    case pos =>
      have t1 : decide ((j : Int) < (c : Int)) = true := by rw [decide_eq_true_eq]; omega
      have t1n : decide (j < c) = true := decide_eq_true hjn
      obtain ⟨j1, hj1⟩ : ∃ j1, j + 1 = j1 := ⟨_, rfl⟩
      have j3 : (j : Int) + 1 = (j1 : Int) := by omega
      have j4 : (0 : Int) ≤ j1 := by omega
      have j5 : (j1 : Int) ≤ 25 := by have := HC.out; omega
      have j6 : (0 : Int) ≤ j := by omega
      obtain ⟨q, hq⟩ : ∃ q, 97 + j = q := ⟨_, rfl⟩
      have q1 : (97 : Int) + (j : Int) = (q : Int) := by omega
      have q2 : (0 : Int) ≤ q := by omega
      have q3 : (q : Int) ≤ 121 := by have := HC.out; omega
      have Q4 := Lib.hid (u8_97 q j hq (by have := HC.out; omega))
      have HJ := Lib.hid (And.intro hj1 hjn)
      clear hj1 hjn hj hq
      repeat (first | refine kw_seq ?_ | refine kw_block ?_ | refine kw_region ?_ | refine kl_nil ?_ | refine kq_then ?_ | refine kw_ift rfl ?_ | refine kw_skip ?_ | (first | refine kl_move rfl rfl (.inl rfl) rfl rfl ?_ | refine kl_move rfl rfl (.inr rfl) rfl rfl ?_ | refine kl_const rfl rfl (.inl rfl) rfl ?_ | refine kl_const rfl rfl (.inr rfl) rfl ?_) | ((first | refine kl_step rfl rfl rfl fun K hK => ?_ | refine kl_step0 rfl rfl rfl fun K hK => ?_); go_simp; (try go_bits); (first | refine hK _ _ ?_ | refine hK _ ?_); clear hK K))
      have hb3 : Below W2.heap.size W2 (W2.alloc (.cells #[.int .u8 (q : Int)] 5)) := (Below.refl _ _).alloc (Nat.le_refl _) _
      have hB3 : Bs (W2.alloc (.cells #[.int .u8 (q : Int)] 5)) (some ⟨W2.heap.size, 0, none⟩) 1 [UInt8.ofNat (97 + j)] := Bs.lit 5 rfl _ rfl (by rw [Q4.out]; rfl)
      have hM3 := Lib.hid (hM.out.below hb3)
      obtain ⟨u, hu⟩ : ∃ u, UInt8.ofNat (97 + j) = u := ⟨_, rfl⟩
      rw [hu] at hB3
      have k1 := convB (c := 1) hB3
      obtain ⟨z1, x1⟩ : ∃ z1, bits .xor .i64 v (i : Int) = z1 := ⟨_, rfl⟩
      obtain ⟨z2, x2⟩ : ∃ z2, bits .xor .i64 z1 (j : Int) = z2 := ⟨_, rfl⟩
      have HX : Hid (itA v i j = ⟨[112, u], 6, z2⟩) := by show itA v i j = _; unfold itA pth; rw [hu, x1, x2]
      have k2 : ((⟨#[112]⟩ : ByteArray) ++ ⟨[u].toArray⟩) = ⟨[112, u].toArray⟩ := rfl
      clear hB3 hb3 hM hu
      generalize W2.alloc (.cells #[.int .u8 (q : Int)] 5) = w3 at hM3 k1 ⊢
      generalize W2.heap.size = b3 at k1 ⊢
      repeat (first | (first | refine kl_move rfl rfl (.inl rfl) rfl rfl ?_ | refine kl_move rfl rfl (.inr rfl) rfl rfl ?_ | refine kl_const rfl rfl (.inl rfl) rfl ?_ | refine kl_const rfl rfl (.inr rfl) rfl ?_) | ((first | refine kl_step rfl rfl rfl fun K hK => ?_ | refine kl_step0 rfl rfl rfl fun K hK => ?_); go_simp; (try go_bits); (first | refine hK _ _ ?_ | refine hK _ ?_); clear hK K))
      refine (show KL _ _ _ _ _ _ (w3.alloc (.cells (kepC ⟨[112, u], 6, z2⟩).toArray 29)) from ?_)
      have hr4 := rangeAt_new w3 (kepC ⟨[112, u], 6, z2⟩).toArray 29 w3.heap.size rfl
      have hb4 : Below w3.heap.size w3 (w3.alloc (.cells (kepC ⟨[112, u], 6, z2⟩).toArray 29)) := (Below.refl _ _).alloc (Nat.le_refl _) _
      have hM4 := Lib.hid (hM3.out.below hb4)
      have HR4 : Hid ((w3.alloc (.cells (kepC ⟨[112, u], 6, z2⟩).toArray 29)).rangeAt w3.heap.size 0 (kepC ⟨[112, u], 6, z2⟩)) := hr4
      clear hr4 hb4 hM3 k1 k2 x1 x2
      generalize w3.alloc (.cells (kepC ⟨[112, u], 6, z2⟩).toArray 29) = w4 at hM4 HR4 ⊢
      generalize w3.heap.size = g4 at HR4 ⊢
      rw [← HX.out] at HR4
      refine kl_appK B vv j (rowOf (itA v i) j) (itA v i j) hM4.out.own g4 1 HR4.out (by have := HJ.out; have := HC.out; omega) hM4.out.BW rfl rfl rfl rfl rfl rfl ?_
      intro v5 w5 ho5 hg5 _
      rw [← rowOf_next, HJ.out.1] at ho5
      have hM5 := Lib.hid (hM4.out.app ho5 hg5)
      clear hM4 ho5 hg5 HR4
      repeat (first | refine kw_seq ?_ | refine kw_region ?_ | refine kl_nil ?_ | refine kq_then ?_ | refine kq_block ?_ | (first | refine kl_move rfl rfl (.inl rfl) rfl rfl ?_ | refine kl_move rfl rfl (.inr rfl) rfl rfl ?_ | refine kl_const rfl rfl (.inl rfl) rfl ?_ | refine kl_const rfl rfl (.inr rfl) rfl ?_) | ((first | refine kl_step rfl rfl rfl fun K hK => ?_ | refine kl_step0 rfl rfl rfl fun K hK => ?_); go_simp; (try go_bits); (first | refine hK _ _ ?_ | refine hK _ ?_); clear hK K))
      refine kq_again (c - j1) [0, 1, 2, 7, 8, 9, 10] (by have := HJ.out; omega) ?_
      have hM6 : Hid (RowM w w5 g B f v5 j1 (rowOf (itA v i) j1)) := by
        show RowM _ _ _ _ _ _ _ _
        rw [← HJ.out.1]; rw [← HJ.out.1] at hM5; exact hM5.out
      exact ⟨j1, v5, by have := HJ.out; omega, rfl, hM6, rfl⟩
    obtain rfl : j = c := by omega
    have t1 : decide ((j : Int) < (j : Int)) = false := by simp
    have t1n : decide (j < j) = false := by simp
    obtain ⟨A9, c9, rfl, hk9⟩ := hM.out.away (rowOf_len _ _)
    have hk9 := Lib.hid hk9
    have HAW : Hid (0 < j → Away g A9) := fun _ a ha => by
      have hown := hM.out.own
      rw [ha] at hown
      have := (hown.lt a.block rfl).1
      have := hM.out.gB
      omega
    have hf9 := Lib.hid hM.out.fs
    have HB9 := Lib.hid hM.out.bel
    clear hjn hj hM
    repeat (first | refine kw_seq ?_ | refine kw_region ?_ | refine kl_nil ?_ | refine kq_then ?_ | refine kq_block ?_ | refine kw_iff rfl ?_ | refine kw_exit ?_ | refine kq_then_exit ?_ | refine kq_block_here rfl ?_ | refine kq_again_exit ?_ | refine kw_skip ?_ | (first | refine kl_move rfl rfl (.inl rfl) rfl rfl ?_ | refine kl_move rfl rfl (.inr rfl) rfl rfl ?_ | refine kl_const rfl rfl (.inl rfl) rfl ?_ | refine kl_const rfl rfl (.inr rfl) rfl ?_) | ((first | refine kl_step rfl rfl rfl fun K hK => ?_ | refine kl_step0 rfl rfl rfl fun K hK => ?_); go_simp; (try go_bits); (first | refine hK _ _ ?_ | refine hK _ ?_); clear hK K))
    refine kl_call rfl rfl rfl Try.func11 rfl (by kernel_rfl) rfl ?_
    refine Calls.mono (saveK_any NoB g (noB g) f A9 j c9 (rowOf (itA v i) j) W2 hf9.out hk9.out HKV.out) ?_
    rintro e w10 ⟨rfl, hf10, hg10⟩
    refine ⟨_, rfl, ?_⟩
    rw [E3.out] at hf10 ⊢
    dsimp only at hf10 ⊢
    have hk10 := Lib.hid (hk9.out.grown hg10 HAW.out)
    have HB10 := Lib.hid (below_grown HB9.out hg10 HB9.out.size HG.out)
    clear hg10 hf9 hk9 HB9 HAW
    repeat (first | refine kw_seq ?_ | refine kw_region ?_ | refine kl_nil ?_ | refine kq_then ?_ | refine kw_iff rfl ?_ | refine kw_skip ?_ | (first | refine kl_move rfl rfl (.inl rfl) rfl rfl ?_ | refine kl_move rfl rfl (.inr rfl) rfl rfl ?_ | refine kl_const rfl rfl (.inl rfl) rfl ?_ | refine kl_const rfl rfl (.inr rfl) rfl ?_) | ((first | refine kl_step rfl rfl rfl fun K hK => ?_ | refine kl_step0 rfl rfl rfl fun K hK => ?_); go_simp; (try go_bits); (first | refine hK _ _ ?_ | refine hK _ ?_); clear hK K))
    refine kl_call rfl rfl rfl Try.func12 rfl (by kernel_rfl) rfl ?_
    refine Calls.mono (loadK_any NoB g f3 w10 hf10) ?_
    rintro e w11 ⟨A11, n11, c11, rfl, hk11, _, _, _, hb11⟩
    refine ⟨_, rfl, ?_⟩
    rw [N3.out] at hk11 ⊢
    dsimp only at hk11 ⊢
    have HK11 := Lib.hid hk11
    have hk12 := Lib.hid (hk10.out.below hb11)
    have hf12 := hf10.below hb11
    have HB12 := Lib.hid (below_then HB10.out hb11 HB10.out.size)
    obtain rfl : n11 = j := by have := HK11.out.len; rw [rowOf_len] at this; exact this.symm
    have e1 : ((i1 : Int) != (i1 : Int)) = false := by simp
    clear hk11 hk10 hb11 hf10 HB10
    repeat (first | refine kw_seq ?_ | refine kw_region ?_ | refine kl_nil ?_ | refine kq_then ?_ | refine kw_iff rfl ?_ | refine kw_skip ?_ | refine kl_ung rfl rfl ?_ | (first | refine kl_move rfl rfl (.inl rfl) rfl rfl ?_ | refine kl_move rfl rfl (.inr rfl) rfl rfl ?_ | refine kl_const rfl rfl (.inl rfl) rfl ?_ | refine kl_const rfl rfl (.inr rfl) rfl ?_) | ((first | refine kl_step rfl rfl rfl fun K hK => ?_ | refine kl_step0 rfl rfl rfl fun K hK => ?_); go_simp; (try go_bits); (first | refine hK _ _ ?_ | refine hK _ ?_); clear hK K))
    refine kl_call rfl rfl rfl Try.func13 rfl (by kernel_rfl) rfl ?_
    refine Calls.mono (same16_any A11 A9 n11 c11 n11 c9 (rowOf (itA v i) n11) (rowOf (itA v i) n11) w11 HK11.out hk12.out (by have := HC.out; omega) (by have := HC.out; omega)) ?_
    rintro e w13 ⟨rfl, hb13⟩
    refine ⟨_, rfl, ?_⟩
    rw [eqKs_self]
    have hf13 := hf12.below hb13
    have HB13 := Lib.hid (below_then HB12.out hb13 HB12.out.size)
    clear HK11 hk12 hf12 HB12 hb13
    repeat (first | refine kw_seq ?_ | refine kw_region ?_ | refine kl_nil ?_ | refine kq_then ?_ | refine kq_block ?_ | refine kw_iff rfl ?_ | refine kw_skip ?_ | refine kl_ung rfl rfl ?_ | (first | refine kl_move rfl rfl (.inl rfl) rfl rfl ?_ | refine kl_move rfl rfl (.inr rfl) rfl rfl ?_ | refine kl_const rfl rfl (.inl rfl) rfl ?_ | refine kl_const rfl rfl (.inr rfl) rfl ?_) | ((first | refine kl_step rfl rfl rfl fun K hK => ?_ | refine kl_step0 rfl rfl rfl fun K hK => ?_); go_simp; (try go_bits); (first | refine hK _ _ ?_ | refine hK _ ?_); clear hK K))
    refine kq_again (n - i1) [0, 1, 2, 7, 8] (by have := HI.out; omega) ?_
    exact ⟨i1, f3, by have := HI.out; omega, rfl, I3, HB13, hf13, rfl⟩
  obtain rfl : i = n := by omega
  have t1 : decide ((i : Int) < (i : Int)) = false := by simp
  have t1n : decide (i < i) = false := by simp
  clear hin hi I
  repeat (first | refine kw_seq ?_ | refine kw_region ?_ | refine kl_nil ?_ | refine kq_then ?_ | refine kq_block ?_ | refine kw_iff rfl ?_ | refine kw_exit ?_ | refine kq_then_exit ?_ | refine kq_block_here rfl ?_ | refine kq_again_exit ?_ | refine kw_skip ?_ | (first | refine kl_move rfl rfl (.inl rfl) rfl rfl ?_ | refine kl_move rfl rfl (.inr rfl) rfl rfl ?_ | refine kl_const rfl rfl (.inl rfl) rfl ?_ | refine kl_const rfl rfl (.inr rfl) rfl ?_))
  have HBW2 := Lib.hid HBW.out
  clear hf HBW
  obtain ⟨W9, hmk, hb9⟩ := makeKept W
  have HB9 := Lib.hid (below_then HBW2.out hb9 HBW2.out.size)
  clear hb9
  repeat (first | refine kw_seq ?_ | refine kw_block ?_ | refine kw_skip ?_ | refine kw_region ?_ | refine kl_nil ?_ | refine kq_then ?_ | refine kq_block ?_ | refine kw_exit ?_ | refine kq_then_exit ?_ | refine kq_block_here rfl ?_ | refine kq_block_far rfl ?_ | refine kq_again_exit ?_ | refine kw_ret ?_ | refine kq_then_ret ?_ | refine kq_block_ret ?_ | refine kq_again_ret ?_ | refine kw_ift rfl ?_ | refine kw_iff rfl ?_ | refine kl_ung rfl rfl ?_ | refine kl_skipg rfl rfl rfl rfl ?_ | refine kl_skipg0 rfl rfl rfl ?_ | (first | refine kl_move rfl rfl (.inl rfl) rfl rfl ?_ | refine kl_move rfl rfl (.inr rfl) rfl rfl ?_ | refine kl_const rfl rfl (.inl rfl) rfl ?_ | refine kl_const rfl rfl (.inr rfl) rfl ?_) | ((first | refine kl_step rfl rfl rfl fun K hK => ?_ | refine kl_step0 rfl rfl rfl fun K hK => ?_); go_simp; (try go_bits); (first | refine hK _ _ ?_ | refine hK _ ?_); clear hK K))
  refine kl_call rfl rfl rfl Try.func11 rfl (by kernel_rfl) rfl ?_
  refine Calls.mono (saveMany_any _ _ 25 25 W9 (by omega)) ?_
  rintro e _ ⟨rfl, rfl⟩
  refine ⟨_, rfl, ?_⟩
  clear hmk
  repeat (first | refine kw_seq ?_ | refine kw_block ?_ | refine kw_skip ?_ | refine kw_region ?_ | refine kl_nil ?_ | refine kq_then ?_ | refine kq_block ?_ | refine kw_exit ?_ | refine kq_then_exit ?_ | refine kq_block_here rfl ?_ | refine kq_block_far rfl ?_ | refine kq_again_exit ?_ | refine kw_ret ?_ | refine kq_then_ret ?_ | refine kq_block_ret ?_ | refine kq_again_ret ?_ | refine kw_ift rfl ?_ | refine kw_iff rfl ?_ | refine kl_ung rfl rfl ?_ | refine kl_skipg rfl rfl rfl rfl ?_ | refine kl_skipg0 rfl rfl rfl ?_ | (first | refine kl_move rfl rfl (.inl rfl) rfl rfl ?_ | refine kl_move rfl rfl (.inr rfl) rfl rfl ?_ | refine kl_const rfl rfl (.inl rfl) rfl ?_ | refine kl_const rfl rfl (.inr rfl) rfl ?_) | ((first | refine kl_step rfl rfl rfl fun K hK => ?_ | refine kl_step0 rfl rfl rfl fun K hK => ?_); go_simp; (try go_bits); (first | refine hK _ _ ?_ | refine hK _ ?_); clear hK K))
  exact kq_ret1 rfl rfl ⟨rfl, HB9.out⟩
end Go.Proofs.Ytcpifcdndhhmgaa
