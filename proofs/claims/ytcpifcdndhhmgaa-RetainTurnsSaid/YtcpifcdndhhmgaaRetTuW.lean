/- RetainTurns: the walk. -/
import Derived.Test.YtcpifcdndhhmgaaRetAgP
import Derived.Test.YtcpifcdndhhmgaaRetRd
import Derived.Test.YtcpifcdndhhmgaaCrcSum
set_option linter.unusedVariables false
set_option linter.unusedSimpArgs false
namespace Go.Proofs.Ytcpifcdndhhmgaa
open Go.RowKit
attribute [local go_sem] ev_tmp ev_const ev_func ev_global lk_hit lk_miss uponK_value uponK_skip look_tmp look_const look_global look_func valP_value
structure TKInv (c i : Nat) (f : FlashSt) (D : Nat) : Prop where
  live : Live f
  kep : KepI f i (if i = 0 then [] else rowOf itT c)
  done : f.done = (D : Int)
  small : D ≤ i * 70
  sec : ∀ j : Nat, j < 4 → (readF f j)[0]? = some 255
theorem turnsK_start (c : Nat) : TKInv c 0 newF 0 := ⟨live_new, kepI_new, rfl, by omega, fun j hj => by rw [read_at newF j (by omega) newF_len 0 (by omega), newF_at _ (by omega)]⟩
theorem dd_eq {D D3 pg dd : Nat} (h : D3 = D + pg ∨ D3 = D + pg + 1) (hd : D3 - D = dd) : (D3 : Int) - (D : Int) = (dd : Int) ∧ (dd = pg ∨ dd = pg + 1) := by
  constructor <;> omega
theorem bytesK_seq (q r : Int) (l : List KepS) : (bytesK q l).length = (bytesK r l).length := by rw [length_bytesK, length_bytesK]
theorem TKInv.step {c i D : Nat} {f : FlashSt} (h : TKInv c i f D) (hc : c ≤ 24) (hi : i < 30) (m : Nat) (hm : (bytesK 1 (rowOf itT c)).length = m) :
    ∃ f' D', saveK f (rowOf itT c) = (0, f') ∧ TKInv c (i + 1) f' D' ∧ (D' = D + (m + 6 + 15) / 16 ∨ D' = D + (m + 6 + 15) / 16 + 1) := by
  have hb := rowOf_bytes itT c ((i + 1 : Nat) : Int) hc (fun j => rfl)
  have hl : (bytesK ((i + 1 : Nat) : Int) (rowOf itT c)).length = m := by rw [bytesK_seq _ 1]; exact hm
  have hp : pagesN (bytesK ((i + 1 : Nat) : Int) (rowOf itT c)).length = (m + 6 + 15) / 16 := by unfold pagesN; rw [hl]
  have hs := h.small
  obtain ⟨f', h1, h2, h3, h4, h5⟩ := h.kep.save h.live (by omega) (rowOf itT c) (rowOf_ok itT c i hc (by omega) (fun j hj => itT_ok j (by omega))) hb
  rw [hp] at h5
  rw [hl] at hb
  have hsec : ∀ j : Nat, j < 4 → (readF f' j)[0]? = some 255 := fun j hj => by rw [h4 j hj]; exact h.sec j hj
  rcases h5 D h.done (by omega) with h6 | h6
  · exact ⟨f', _, h1, ⟨h2, by rw [if_neg (by omega)]; exact h3, h6, by omega, hsec⟩, .inl rfl⟩
  · exact ⟨f', _, h1, ⟨h2, by rw [if_neg (by omega)]; exact h3, h6, by omega, hsec⟩, .inr rfl⟩
set_option maxRecDepth 100000 in
set_option maxHeartbeats 8000000 in
theorem retainTurns_top (z y : Int) (w : World) (_ : -9223372036854775808 ≤ z ∧ z ≤ 9223372036854775807) (_ : -9223372036854775808 ≤ y ∧ y ≤ 9223372036854775807) :
    Calls Try.prog 4 #[.int .i64 z, .int .i64 y] w fun e w' => e = .returned (.bool true) ∧ Below w.heap.size w w' := by
  refine calls_kw Try.func4 rfl Try.ntmps4 rfl [(0, .int .i64 z), (1, .int .i64 y)] rfl ?_
  repeat (first | refine kw_seq ?_ | refine kw_region ?_ | refine kl_nil ?_ | refine kq_then ?_ | refine kw_iff rfl ?_ | refine kw_skip ?_ | refine kw_block ?_ | refine kl_ung rfl rfl ?_ | refine kl_skipg rfl rfl rfl rfl ?_ | (first | refine kl_move rfl rfl (.inl rfl) rfl rfl ?_ | refine kl_move rfl rfl (.inr rfl) rfl rfl ?_ | refine kl_const rfl rfl (.inl rfl) rfl ?_ | refine kl_const rfl rfl (.inr rfl) rfl ?_) | ((first | refine kl_step rfl rfl rfl fun K hK => ?_ | refine kl_step0 rfl rfl rfl fun K hK => ?_); go_simp; (try go_bits); (first | refine hK _ _ ?_ | refine hK _ ?_); clear hK K))
  refine kl_call rfl rfl rfl Try.func8 rfl (by kernel_rfl) rfl ?_
  refine Calls.mono (known16_any w) ?_
  rintro e w0 ⟨rfl, hb0⟩
  refine ⟨_, rfl, ?_⟩
  repeat (first | refine kw_seq ?_ | refine kw_region ?_ | refine kl_nil ?_ | refine kq_then ?_ | refine kw_iff rfl ?_ | refine kw_skip ?_ | refine kw_block ?_ | refine kl_ung rfl rfl ?_ | refine kl_skipg rfl rfl rfl rfl ?_ | (first | refine kl_move rfl rfl (.inl rfl) rfl rfl ?_ | refine kl_move rfl rfl (.inr rfl) rfl rfl ?_ | refine kl_const rfl rfl (.inl rfl) rfl ?_ | refine kl_const rfl rfl (.inr rfl) rfl ?_) | ((first | refine kl_step rfl rfl rfl fun K hK => ?_ | refine kl_step0 rfl rfl rfl fun K hK => ?_); go_simp; (try go_bits); (first | refine hK _ _ ?_ | refine hK _ ?_); clear hK K))
  refine kl_call rfl rfl rfl Try.func9 rfl (by kernel_rfl) rfl ?_
  refine Calls.mono (within_any z 30 30 w0 rfl (by omega) (by omega)) ?_
  rintro e _ ⟨rfl, rfl⟩
  refine ⟨_, rfl, ?_⟩
  repeat (first | refine kw_seq ?_ | refine kw_region ?_ | refine kl_nil ?_ | refine kq_then ?_ | refine kw_iff rfl ?_ | refine kw_skip ?_ | refine kw_block ?_ | refine kl_ung rfl rfl ?_ | refine kl_skipg rfl rfl rfl rfl ?_ | (first | refine kl_move rfl rfl (.inl rfl) rfl rfl ?_ | refine kl_move rfl rfl (.inr rfl) rfl rfl ?_ | refine kl_const rfl rfl (.inl rfl) rfl ?_ | refine kl_const rfl rfl (.inr rfl) rfl ?_) | ((first | refine kl_step rfl rfl rfl fun K hK => ?_ | refine kl_step0 rfl rfl rfl fun K hK => ?_); go_simp; (try go_bits); (first | refine hK _ _ ?_ | refine hK _ ?_); clear hK K))
  refine kl_call rfl rfl rfl Try.func9 rfl (by kernel_rfl) rfl ?_
  refine Calls.mono (within_any y 25 25 w0 rfl (by omega) (by omega)) ?_
  rintro e _ ⟨rfl, rfl⟩
  refine ⟨_, rfl, ?_⟩
  have hn := within_lt z 30 (by omega)
  have hc := within_lt y 25 (by omega)
  obtain ⟨n, hn'⟩ : ∃ n, within z 30 = n := ⟨_, rfl⟩
  obtain ⟨c, hc'⟩ : ∃ c, within y 25 = c := ⟨_, rfl⟩
  rw [hn'] at hn ⊢
  rw [hc'] at hc ⊢
  have HN := Lib.hid hn
  have HC := Lib.hid hc
  have HKV : Hid (KepV (rowOf itT c)) := CkOk.kv (rowOf_ok itT c 0 (by omega) (by omega) (fun j hj => itT_ok j (by omega)))
  clear hn' hn hc' hc
  repeat (first | refine kw_seq ?_ | refine kw_region ?_ | refine kl_nil ?_ | refine kq_then ?_ | refine kw_iff rfl ?_ | refine kw_skip ?_ | refine kw_block ?_ | refine kl_ung rfl rfl ?_ | refine kl_skipg rfl rfl rfl rfl ?_ | (first | refine kl_move rfl rfl (.inl rfl) rfl rfl ?_ | refine kl_move rfl rfl (.inr rfl) rfl rfl ?_ | refine kl_const rfl rfl (.inl rfl) rfl ?_ | refine kl_const rfl rfl (.inr rfl) rfl ?_) | ((first | refine kl_step rfl rfl rfl fun K hK => ?_ | refine kl_step0 rfl rfl rfl fun K hK => ?_); go_simp; (try go_bits); (first | refine hK _ _ ?_ | refine hK _ ?_); clear hK K))
  refine kl_call rfl rfl rfl Try.func10 rfl (by kernel_rfl) rfl ?_
  refine Calls.mono (new_any w0) ?_
  rintro e w1 ⟨rfl, hf1, hb1⟩
  refine ⟨_, rfl, ?_⟩
  obtain ⟨g, hg⟩ : ∃ g, w0.heap.size = g := ⟨_, rfl⟩
  have HG : Hid (w.heap.size ≤ g) := by show _ ≤ _; have := hb0.size; omega
  rw [hg] at hf1 ⊢
  have hf1 : FS NoB w1 g newF := hf1
  have HB1 := Lib.hid (below_then hb0 hb1 hb0.size)
  have I0 := Lib.hid (turnsK_start c)
  clear hg hb0
  have hM0 : Hid (RowM w w1 g w1.heap.size newF (.slice none 0 0) 0 []) := ⟨hf1, World.ownsRow_nil _ _ _ _, hf1.lt, Nat.le_refl _, HG.out, HB1.out⟩
  obtain ⟨B, hB⟩ : ∃ B, w1.heap.size = B := ⟨_, rfl⟩
  rw [hB] at hM0
  clear hb1 hf1 HB1 hB
  repeat (first | refine kw_seq ?_ | refine kw_region ?_ | refine kl_nil ?_ | refine kq_then ?_ | refine kw_iff rfl ?_ | refine kw_skip ?_ | refine kl_ung rfl rfl ?_ | refine kl_skipg rfl rfl rfl rfl ?_ | (first | refine kl_move rfl rfl (.inl rfl) rfl rfl ?_ | refine kl_move rfl rfl (.inr rfl) rfl rfl ?_ | refine kl_const rfl rfl (.inl rfl) rfl ?_ | refine kl_const rfl rfl (.inr rfl) rfl ?_) | ((first | refine kl_step rfl rfl rfl fun K hK => ?_ | refine kl_step0 rfl rfl rfl fun K hK => ?_); go_simp; (try go_bits); (first | refine hK _ _ ?_ | refine hK _ ?_); clear hK K))
  refine KW.less [0, 1, 5, 6, 7] ?_
  simp only [nrm, lk, Nat.reduceBEq, cond_true, cond_false]
  refine kw_block ?_
  refine kw_loop (fun mm L W => ∃ (j : Nat) (vv : Value), j ≤ c ∧ mm = c - j ∧ Hid (RowM w W g B newF vv j (rowOf itT j)) ∧ L = [(0, .int .i64 (n : Int)), (1, .int .i64 (c : Int)), (5, .pointer (some ⟨g, 0, none⟩)), (6, vv), (7, .int .i64 (j : Int))]) ⟨0, .slice none 0 0, by omega, rfl, hM0, rfl⟩ ?_
  clear hM0
  rintro mm L W2 ⟨j, vv, hj, rfl, hM, rfl⟩
  by_cases hjn : j < c
  case pos =>
    have t1 : decide ((j : Int) < (c : Int)) = true := by rw [decide_eq_true_eq]; omega
    have t1n : decide (j < c) = true := decide_eq_true hjn
    obtain ⟨j1, hj1⟩ : ∃ j1, j + 1 = j1 := ⟨_, rfl⟩
    have j3 : (j : Int) + 1 = (j1 : Int) := by omega
    have j4 : (0 : Int) ≤ j1 := by omega
    have j5 : (j1 : Int) ≤ 25 := by have := HC.out; omega
    have j6 : (0 : Int) ≤ j := by omega
    obtain ⟨q, hq⟩ : ∃ q, 97 + j = q := ⟨_, rfl⟩
    have q1 : (97 : Int) + (j : Int) = (q : Int) := by omega
    have q2 : (0 : Int) ≤ q := by omega
    have q3 : (q : Int) ≤ 121 := by have := HC.out; omega
    have Q4 := Lib.hid (u8_97 q j hq (by have := HC.out; omega))
    have HJ := Lib.hid (And.intro hj1 hjn)
    clear hj1 hjn hj hq
    repeat (first | refine kw_seq ?_ | refine kw_block ?_ | refine kw_region ?_ | refine kl_nil ?_ | refine kq_then ?_ | refine kw_ift rfl ?_ | refine kw_skip ?_ | (first | refine kl_move rfl rfl (.inl rfl) rfl rfl ?_ | refine kl_move rfl rfl (.inr rfl) rfl rfl ?_ | refine kl_const rfl rfl (.inl rfl) rfl ?_ | refine kl_const rfl rfl (.inr rfl) rfl ?_) | ((first | refine kl_step rfl rfl rfl fun K hK => ?_ | refine kl_step0 rfl rfl rfl fun K hK => ?_); go_simp; (try go_bits); (first | refine hK _ _ ?_ | refine hK _ ?_); clear hK K))
    have hb3 : Below W2.heap.size W2 (W2.alloc (.cells #[.int .u8 (q : Int)] 5)) := (Below.refl _ _).alloc (Nat.le_refl _) _
    have hB3 : Bs (W2.alloc (.cells #[.int .u8 (q : Int)] 5)) (some ⟨W2.heap.size, 0, none⟩) 1 [UInt8.ofNat (97 + j)] := Bs.lit 5 rfl _ rfl (by rw [Q4.out]; rfl)
    have hM3 := Lib.hid (hM.out.below hb3)
    obtain ⟨u, hu⟩ : ∃ u, UInt8.ofNat (97 + j) = u := ⟨_, rfl⟩
    rw [hu] at hB3
    have k1 := convB (c := 1) hB3
    have HX : Hid (itT j = ⟨[112, u], 5, (j : Int)⟩) := by show itT j = _; unfold itT pth; rw [hu]
    have k2 : ((⟨#[112]⟩ : ByteArray) ++ ⟨[u].toArray⟩) = ⟨[112, u].toArray⟩ := rfl
    clear hB3 hb3 hM hu
    generalize W2.alloc (.cells #[.int .u8 (q : Int)] 5) = w3 at hM3 k1 ⊢
    generalize W2.heap.size = b3 at k1 ⊢
    repeat (first | (first | refine kl_move rfl rfl (.inl rfl) rfl rfl ?_ | refine kl_move rfl rfl (.inr rfl) rfl rfl ?_ | refine kl_const rfl rfl (.inl rfl) rfl ?_ | refine kl_const rfl rfl (.inr rfl) rfl ?_) | ((first | refine kl_step rfl rfl rfl fun K hK => ?_ | refine kl_step0 rfl rfl rfl fun K hK => ?_); go_simp; (try go_bits); (first | refine hK _ _ ?_ | refine hK _ ?_); clear hK K))
    refine (show KL _ _ _ _ _ _ (w3.alloc (.cells (kepC ⟨[112, u], 5, (j : Int)⟩).toArray 29)) from ?_)
    have hr4 := rangeAt_new w3 (kepC ⟨[112, u], 5, (j : Int)⟩).toArray 29 w3.heap.size rfl
    have hb4 : Below w3.heap.size w3 (w3.alloc (.cells (kepC ⟨[112, u], 5, (j : Int)⟩).toArray 29)) := (Below.refl _ _).alloc (Nat.le_refl _) _
    have hM4 := Lib.hid (hM3.out.below hb4)
    have HR4 : Hid ((w3.alloc (.cells (kepC ⟨[112, u], 5, (j : Int)⟩).toArray 29)).rangeAt w3.heap.size 0 (kepC ⟨[112, u], 5, (j : Int)⟩)) := hr4
    clear hr4 hb4 hM3 k1 k2
    generalize w3.alloc (.cells (kepC ⟨[112, u], 5, (j : Int)⟩).toArray 29) = w4 at hM4 HR4 ⊢
    generalize w3.heap.size = g4 at HR4 ⊢
    rw [← HX.out] at HR4
    refine kl_appK B vv j (rowOf itT j) (itT j) hM4.out.own g4 1 HR4.out (by have := HJ.out; have := HC.out; omega) hM4.out.BW rfl rfl rfl rfl rfl rfl ?_
    intro v5 w5 ho5 hg5 _
    rw [← rowOf_next, HJ.out.1] at ho5
    have hM5 := Lib.hid (hM4.out.app ho5 hg5)
    clear hM4 ho5 hg5 HR4
    repeat (first | refine kw_seq ?_ | refine kw_region ?_ | refine kl_nil ?_ | refine kq_then ?_ | refine kq_block ?_ | (first | refine kl_move rfl rfl (.inl rfl) rfl rfl ?_ | refine kl_move rfl rfl (.inr rfl) rfl rfl ?_ | refine kl_const rfl rfl (.inl rfl) rfl ?_ | refine kl_const rfl rfl (.inr rfl) rfl ?_) | ((first | refine kl_step rfl rfl rfl fun K hK => ?_ | refine kl_step0 rfl rfl rfl fun K hK => ?_); go_simp; (try go_bits); (first | refine hK _ _ ?_ | refine hK _ ?_); clear hK K))
    refine kq_again (c - j1) [0, 1, 5, 6, 7] (by have := HJ.out; omega) ?_
    have hM6 : Hid (RowM w w5 g B newF v5 j1 (rowOf itT j1)) := by
      show RowM _ _ _ _ _ _ _ _
      rw [← HJ.out.1]; rw [← HJ.out.1] at hM5; exact hM5.out
    exact ⟨j1, v5, by have := HJ.out; omega, rfl, hM6, rfl⟩
  obtain rfl : j = c := by omega
  have t1 : decide ((j : Int) < (j : Int)) = false := by simp
  have t1n : decide (j < j) = false := by simp
  obtain ⟨A9, c9, rfl, hk9⟩ := hM.out.away (rowOf_len _ _)
  have hk9 := Lib.hid hk9
  have HAW : Hid (0 < j → Away g A9) := fun _ a ha => by
    have hown := hM.out.own
    rw [ha] at hown
    have := (hown.lt a.block rfl).1
    have := hM.out.gB
    omega
  have hf9 := Lib.hid hM.out.fs
  have HB9 := Lib.hid hM.out.bel
  clear hjn hj hM
  repeat (first | refine kw_seq ?_ | refine kw_region ?_ | refine kl_nil ?_ | refine kq_then ?_ | refine kq_block ?_ | refine kw_iff rfl ?_ | refine kw_exit ?_ | refine kq_then_exit ?_ | refine kq_block_here rfl ?_ | refine kq_again_exit ?_ | refine kw_skip ?_ | (first | refine kl_move rfl rfl (.inl rfl) rfl rfl ?_ | refine kl_move rfl rfl (.inr rfl) rfl rfl ?_ | refine kl_const rfl rfl (.inl rfl) rfl ?_ | refine kl_const rfl rfl (.inr rfl) rfl ?_) | ((first | refine kl_step rfl rfl rfl fun K hK => ?_ | refine kl_step0 rfl rfl rfl fun K hK => ?_); go_simp; (try go_bits); (first | refine hK _ _ ?_ | refine hK _ ?_); clear hK K))
  clear t1 t1n
  refine KW.less [0, 5, 6, 8, 9] ?_
  simp only [nrm, lk, Nat.reduceBEq, cond_true, cond_false]
  refine kw_block ?_
  refine kw_loop (fun mm L W => ∃ (i : Nat) (f : FlashSt) (D : Nat), i ≤ n ∧ mm = n - i ∧ Hid (TKInv j i f D) ∧ Hid (Below w.heap.size w W) ∧ Hid (FS NoB W g f) ∧ Hid (KeS W A9 j (rowOf itT j)) ∧ L = [(0, .int .i64 (n : Int)), (5, .pointer (some ⟨g, 0, none⟩)), (6, .slice A9 j c9), (8, .int .i64 (D : Int)), (9, .int .i64 (i : Int))]) ⟨0, newF, 0, by omega, rfl, I0, HB9, hf9, hk9, rfl⟩ ?_
  clear I0 HB9 hf9 hk9
  rintro mm L W ⟨i, f, D, hi, rfl, I, HBW, hf, hk, rfl⟩
  by_cases hin : i < n
  case pos =>
    have t1 : decide ((i : Int) < (n : Int)) = true := by rw [decide_eq_true_eq]; omega
    have t1n : decide (i < n) = true := decide_eq_true hin
    obtain ⟨i1, hi1⟩ : ∃ i1, i + 1 = i1 := ⟨_, rfl⟩
    have i3 : (i : Int) + 1 = (i1 : Int) := by omega
    have i4 : (0 : Int) ≤ i1 := by omega
    have i5 : (i1 : Int) ≤ 61 := by have := HN.out; omega
    have i6 : (0 : Int) ≤ i := by omega
    obtain ⟨m, hm⟩ : ∃ m, (bytesK 1 (rowOf itT j)).length = m := ⟨_, rfl⟩
    obtain ⟨f3, D3, s1, s2, s3⟩ := I.out.step (by have := HC.out; omega) (by have := HN.out; omega) m hm
    have hmb : m ≤ 1018 := by rw [← hm]; exact rowOf_bytes itT j 1 (by have := HC.out; omega) (fun j => rfl)
    have hD := I.out.small
    have hD3 := s2.small
    have hdn := s2.done
    rw [hi1] at s2 hD3
    have E3 := Lib.hid s1
    have I3 := Lib.hid s2
    have HDN := Lib.hid hdn
    have HM := Lib.hid hm
    have HI := Lib.hid (And.intro hi1 hin)
    obtain ⟨m6, hm6⟩ : ∃ m6, m + 6 = m6 := ⟨_, rfl⟩
    obtain ⟨m21, hm21⟩ : ∃ m21, m6 + 15 = m21 := ⟨_, rfl⟩
    obtain ⟨pg, hpg⟩ : ∃ pg, m21 / 16 = pg := ⟨_, rfl⟩
    have a1 : (m : Int) + 6 = (m6 : Int) := by omega
    have a2 : (m6 : Int) + 15 = (m21 : Int) := by omega
    have a3 : Int.tdiv (m21 : Int) 16 = (pg : Int) := by rw [← hpg]; rfl
    have a4 : (0 : Int) ≤ m := by omega
    have a5 : (m : Int) ≤ 1018 := by omega
    have a6 : (0 : Int) ≤ m6 := by omega
    have a7 : (m6 : Int) ≤ 1024 := by omega
    have a8 : (0 : Int) ≤ m21 := by omega
    have a9 : (m21 : Int) ≤ 1039 := by omega
    have b1 : (0 : Int) ≤ pg := by omega
    have b2 : (pg : Int) ≤ 64 := by omega
    have b3 : wrap64 (pg : Int) = (pg : Int) := by unfold wrap64; omega
    obtain ⟨dd, hdd⟩ : ∃ dd, D3 - D = dd := ⟨_, rfl⟩
    have hd3 : D3 = D + pg ∨ D3 = D + pg + 1 := by
      have e : (m + 6 + 15) / 16 = pg := by rw [← hpg, ← hm21, ← hm6]
      rw [e] at s3; exact s3
    obtain ⟨b4, hddp⟩ := dd_eq hd3 hdd
    have b5 : (0 : Int) ≤ D3 := by omega
    have b6 : (D3 : Int) ≤ 2170 := by have := HN.out; omega
    have b7 : (0 : Int) ≤ D := by omega
    have b8 : (D : Int) ≤ 2170 := by have := HN.out; omega
    have HDD := Lib.hid hddp
    clear s1 s2 s3 I hi1 hin hi hdn hm hm6 hm21 hpg hdd hd3 hD hD3 hmb hddp
    repeat (first | refine kw_seq ?_ | refine kw_block ?_ | refine kw_region ?_ | refine kl_nil ?_ | refine kq_then ?_ | refine kw_ift rfl ?_ | refine kw_skip ?_ | (first | refine kl_move rfl rfl (.inl rfl) rfl rfl ?_ | refine kl_move rfl rfl (.inr rfl) rfl rfl ?_ | refine kl_const rfl rfl (.inl rfl) rfl ?_ | refine kl_const rfl rfl (.inr rfl) rfl ?_) | ((first | refine kl_step rfl rfl rfl fun K hK => ?_ | refine kl_step0 rfl rfl rfl fun K hK => ?_); go_simp; (try go_bits); (first | refine hK _ _ ?_ | refine hK _ ?_); clear hK K))
    refine kl_call rfl rfl rfl Try.func11 rfl (by kernel_rfl) rfl ?_
    refine Calls.mono (saveK_any NoB g (noB g) f A9 j c9 (rowOf itT j) W hf.out hk.out HKV.out) ?_
    rintro e w10 ⟨rfl, hf10, hg10⟩
    refine ⟨_, rfl, ?_⟩
    rw [E3.out] at hf10 ⊢
    dsimp only at hf10 ⊢
    have hk10 := Lib.hid (hk.out.grown hg10 HAW.out)
    have HB10 := Lib.hid (below_grown HBW.out hg10 HBW.out.size HG.out)
    clear hg10 hf hk HBW
    repeat (first | refine kw_seq ?_ | refine kw_region ?_ | refine kl_nil ?_ | refine kq_then ?_ | refine kw_iff rfl ?_ | refine kw_skip ?_ | refine kl_ung rfl rfl ?_ | refine kl_skipg rfl rfl rfl rfl ?_ | (first | refine kl_move rfl rfl (.inl rfl) rfl rfl ?_ | refine kl_move rfl rfl (.inr rfl) rfl rfl ?_ | refine kl_const rfl rfl (.inl rfl) rfl ?_ | refine kl_const rfl rfl (.inr rfl) rfl ?_) | ((first | refine kl_step rfl rfl rfl fun K hK => ?_ | refine kl_step0 rfl rfl rfl fun K hK => ?_); go_simp; (try go_bits); (first | refine hK _ _ ?_ | refine hK _ ?_); clear hK K))
    refine kl_call rfl rfl rfl Try.func14 rfl (by kernel_rfl) rfl ?_
    refine Calls.mono (bytesK_any 1 A9 j c9 (rowOf itT j) w10 hk10.out (by have := HC.out; omega) HKV.out (by unfold I64; omega)) ?_
    rintro e w11 ⟨v11, m11, rfl, ho11, hb11⟩
    refine ⟨_, rfl, ?_⟩
    obtain ⟨A11, c11, rfl, _, _, _⟩ := own_B ho11
    obtain rfl : m11 = m := by have := own_len ho11; rw [HM.out] at this; exact this.symm
    have hf11 := hf10.below hb11
    have hk11 := Lib.hid (hk10.out.below hb11)
    have HB11 := Lib.hid (below_then HB10.out hb11 HB10.out.size)
    clear ho11 hb11 hf10 hk10 HB10
    repeat (first | refine kw_seq ?_ | refine kw_region ?_ | refine kl_nil ?_ | refine kq_then ?_ | refine kw_iff rfl ?_ | refine kw_skip ?_ | refine kl_ung rfl rfl ?_ | refine kl_skipg rfl rfl rfl rfl ?_ | (first | refine kl_move rfl rfl (.inl rfl) rfl rfl ?_ | refine kl_move rfl rfl (.inr rfl) rfl rfl ?_ | refine kl_const rfl rfl (.inl rfl) rfl ?_ | refine kl_const rfl rfl (.inr rfl) rfl ?_) | ((first | refine kl_step rfl rfl rfl fun K hK => ?_ | refine kl_step0 rfl rfl rfl fun K hK => ?_); go_simp; (try go_bits); (first | refine hK _ _ ?_ | refine hK _ ?_); clear hK K))
    refine kl_call rfl rfl rfl Try.func15 rfl (by kernel_rfl) rfl ?_
    refine Calls.mono (ops_any NoB g f3 w11 hf11) ?_
    rintro e _ ⟨rfl, rfl⟩
    refine ⟨_, rfl, ?_⟩
    rw [HDN.out]
    rcases HDD.out with h | h
    · have r1 : ((dd : Int) != (pg : Int)) = false := by rw [bne_eq_false_iff_eq]; omega
      have r1n : (dd != pg) = false := by rw [bne_eq_false_iff_eq]; exact h
      clear h
      repeat (first | refine kw_seq ?_ | refine kw_region ?_ | refine kl_nil ?_ | refine kq_then ?_ | refine kw_iff rfl ?_ | refine kw_skip ?_ | refine kl_ung rfl rfl ?_ | refine kl_skipg rfl rfl rfl rfl ?_ | (first | refine kl_move rfl rfl (.inl rfl) rfl rfl ?_ | refine kl_move rfl rfl (.inr rfl) rfl rfl ?_ | refine kl_const rfl rfl (.inl rfl) rfl ?_ | refine kl_const rfl rfl (.inr rfl) rfl ?_) | ((first | refine kl_step rfl rfl rfl fun K hK => ?_ | refine kl_step0 rfl rfl rfl fun K hK => ?_); go_simp; (try go_bits); (first | refine hK _ _ ?_ | refine hK _ ?_); clear hK K))
      refine kl_call rfl rfl rfl Try.func15 rfl (by kernel_rfl) rfl ?_
      refine Calls.mono (ops_any NoB g f3 w11 hf11) ?_
      rintro e _ ⟨rfl, rfl⟩
      refine ⟨_, rfl, ?_⟩
      rw [HDN.out]
      repeat (first | refine kw_seq ?_ | refine kw_region ?_ | refine kl_nil ?_ | refine kq_then ?_ | refine kw_iff rfl ?_ | refine kw_skip ?_ | refine kl_ung rfl rfl ?_ | refine kl_skipg rfl rfl rfl rfl ?_ | (first | refine kl_move rfl rfl (.inl rfl) rfl rfl ?_ | refine kl_move rfl rfl (.inr rfl) rfl rfl ?_ | refine kl_const rfl rfl (.inl rfl) rfl ?_ | refine kl_const rfl rfl (.inr rfl) rfl ?_) | ((first | refine kl_step rfl rfl rfl fun K hK => ?_ | refine kl_step0 rfl rfl rfl fun K hK => ?_); go_simp; (try go_bits); (first | refine hK _ _ ?_ | refine hK _ ?_); clear hK K))
      refine KW.less [0, 5, 6, 8, 9, 12] ?_
      simp only [nrm, lk, Nat.reduceBEq, cond_true, cond_false]
      have hf12 := Lib.hid hf11
      clear t1 t1n hf11 r1 r1n a1 a2 a3 a4 a5 a6 a7 a8 a9 b1 b2 b3 b4
      refine kw_block ?_
      refine kw_loop (fun mm L W => ∃ (s : Nat), s ≤ 4 ∧ mm = 4 - s ∧ Hid (Below w.heap.size w W) ∧ Hid (FS NoB W g f3) ∧ Hid (KeS W A9 j (rowOf itT j)) ∧ L = [(0, .int .i64 (n : Int)), (5, .pointer (some ⟨g, 0, none⟩)), (6, .slice A9 j c9), (8, .int .i64 (D3 : Int)), (9, .int .i64 (i : Int)), (12, .int .i64 (s : Int))]) ⟨0, by omega, rfl, HB11, hf12, hk11, rfl⟩ ?_
      clear HB11 hf12 hk11
      rintro mm L W ⟨s, hs, rfl, HBW, hf, hk, rfl⟩
      by_cases hs4 : s < 4
      case neg =>
        obtain rfl : s = 4 := by omega
        have t1 : decide (((4 : Nat) : Int) < 4) = false := by decide
        clear hs4 hs
        repeat (first | refine kw_seq ?_ | refine kw_region ?_ | refine kl_nil ?_ | refine kq_then ?_ | refine kq_block ?_ | refine kw_iff rfl ?_ | refine kw_exit ?_ | refine kq_then_exit ?_ | refine kq_block_here rfl ?_ | refine kq_again_exit ?_ | refine kw_skip ?_ | (first | refine kl_move rfl rfl (.inl rfl) rfl rfl ?_ | refine kl_move rfl rfl (.inr rfl) rfl rfl ?_ | refine kl_const rfl rfl (.inl rfl) rfl ?_ | refine kl_const rfl rfl (.inr rfl) rfl ?_) | ((first | refine kl_step rfl rfl rfl fun K hK => ?_ | refine kl_step0 rfl rfl rfl fun K hK => ?_); go_simp; (try go_bits); (first | refine hK _ _ ?_ | refine hK _ ?_); clear hK K))
        refine kq_again (n - i1) [0, 5, 6, 8, 9] (by have := HI.out; omega) ?_
        exact ⟨i1, f3, D3, by have := HI.out; omega, rfl, I3, HBW, hf, hk, rfl⟩
      have t1 : decide ((s : Int) < 4) = true := by rw [decide_eq_true_eq]; omega
      have t1n : decide (s < 4) = true := decide_eq_true hs4
      obtain ⟨s1, hs1⟩ : ∃ s1, s + 1 = s1 := ⟨_, rfl⟩
      have k3 : (s : Int) + 1 = (s1 : Int) := by omega
      have k4 : (0 : Int) ≤ s1 := by omega
      have k5 : (s1 : Int) ≤ 4 := by omega
      have HS := Lib.hid (And.intro hs1 hs4)
      have H0 := Lib.hid (I3.out.sec s hs4)
      clear hs1 hs4 hs
      repeat (first | refine kw_seq ?_ | refine kw_block ?_ | refine kw_region ?_ | refine kl_nil ?_ | refine kq_then ?_ | refine kw_ift rfl ?_ | refine kw_skip ?_ | (first | refine kl_move rfl rfl (.inl rfl) rfl rfl ?_ | refine kl_move rfl rfl (.inr rfl) rfl rfl ?_ | refine kl_const rfl rfl (.inl rfl) rfl ?_ | refine kl_const rfl rfl (.inr rfl) rfl ?_) | ((first | refine kl_step rfl rfl rfl fun K hK => ?_ | refine kl_step0 rfl rfl rfl fun K hK => ?_); go_simp; (try go_bits); (first | refine hK _ _ ?_ | refine hK _ ?_); clear hK K))
      refine kl_call rfl rfl rfl Try.func16 rfl (by kernel_rfl) rfl ?_
      refine Calls.mono (read_any NoB g f3 (s : Int) W hf.out) ?_
      rintro e w12 ⟨A12, n12, c12, rfl, hB12, hn12, hc12, hb12⟩
      refine ⟨_, rfl, ?_⟩
      have hlen := hB12.len
      have hf12 := Lib.hid (hf.out.below hb12)
      have hk12 := Lib.hid (hk.out.below hb12)
      have HB12 := Lib.hid (below_then HBW.out hb12 HBW.out.size)
      have h012 : 0 < n12 := by
        have := (List.getElem?_eq_some_iff.1 H0.out).1
        omega
      obtain ⟨b12, o12, rfl, hcell⟩ := hB12.2 h012
      have cx := hcell 0 (.int .u8 255) (by have h := H0.out; simp only [bv, List.getElem?_map, h]; rfl)
      rw [Nat.add_zero] at cx
      have e0 : (0 : Int) < n12 := by omega
      clear hf hk HBW hb12 hlen hB12 hcell
      repeat (first | refine kw_seq ?_ | refine kw_block ?_ | refine kw_region ?_ | refine kl_nil ?_ | refine kq_then ?_ | refine kq_block ?_ | refine kw_iff rfl ?_ | refine kw_skip ?_ | (first | refine kl_move rfl rfl (.inl rfl) rfl rfl ?_ | refine kl_move rfl rfl (.inr rfl) rfl rfl ?_ | refine kl_const rfl rfl (.inl rfl) rfl ?_ | refine kl_const rfl rfl (.inr rfl) rfl ?_) | ((first | refine kl_step rfl rfl rfl fun K hK => ?_ | refine kl_step0 rfl rfl rfl fun K hK => ?_); go_simp; (try go_bits); (first | refine hK _ _ ?_ | refine hK _ ?_); clear hK K))
      refine kq_again (4 - s1) [0, 5, 6, 8, 9, 12] (by have := HS.out; omega) ?_
      exact ⟨s1, by have := HS.out; omega, rfl, HB12, hf12, hk12, rfl⟩
    · have r1 : ((dd : Int) != (pg : Int)) = true := by rw [bne_iff_ne]; omega
      have r1n : (dd != pg) = true := by rw [bne_iff_ne]; omega
      have r2 : (pg : Int) + 1 = (dd : Int) := by omega
      have r3 : ((dd : Int) != (dd : Int)) = false := by simp
      clear h
      repeat (first | refine kw_seq ?_ | refine kw_region ?_ | refine kl_nil ?_ | refine kq_then ?_ | refine kw_iff rfl ?_ | refine kw_skip ?_ | refine kl_ung rfl rfl ?_ | refine kl_skipg rfl rfl rfl rfl ?_ | (first | refine kl_move rfl rfl (.inl rfl) rfl rfl ?_ | refine kl_move rfl rfl (.inr rfl) rfl rfl ?_ | refine kl_const rfl rfl (.inl rfl) rfl ?_ | refine kl_const rfl rfl (.inr rfl) rfl ?_) | ((first | refine kl_step rfl rfl rfl fun K hK => ?_ | refine kl_step0 rfl rfl rfl fun K hK => ?_); go_simp; (try go_bits); (first | refine hK _ _ ?_ | refine hK _ ?_); clear hK K))
      refine kl_call rfl rfl rfl Try.func15 rfl (by kernel_rfl) rfl ?_
      refine Calls.mono (ops_any NoB g f3 w11 hf11) ?_
      rintro e _ ⟨rfl, rfl⟩
      refine ⟨_, rfl, ?_⟩
      rw [HDN.out]
      repeat (first | refine kw_seq ?_ | refine kw_region ?_ | refine kl_nil ?_ | refine kq_then ?_ | refine kw_iff rfl ?_ | refine kw_skip ?_ | refine kl_ung rfl rfl ?_ | refine kl_skipg rfl rfl rfl rfl ?_ | (first | refine kl_move rfl rfl (.inl rfl) rfl rfl ?_ | refine kl_move rfl rfl (.inr rfl) rfl rfl ?_ | refine kl_const rfl rfl (.inl rfl) rfl ?_ | refine kl_const rfl rfl (.inr rfl) rfl ?_) | ((first | refine kl_step rfl rfl rfl fun K hK => ?_ | refine kl_step0 rfl rfl rfl fun K hK => ?_); go_simp; (try go_bits); (first | refine hK _ _ ?_ | refine hK _ ?_); clear hK K))
      refine KW.less [0, 5, 6, 8, 9, 12] ?_
      simp only [nrm, lk, Nat.reduceBEq, cond_true, cond_false]
      have hf12 := Lib.hid hf11
      clear t1 t1n hf11 r1 r1n a1 a2 a3 a4 a5 a6 a7 a8 a9 b1 b2 b3 b4 r2 r3
      refine kw_block ?_
      refine kw_loop (fun mm L W => ∃ (s : Nat), s ≤ 4 ∧ mm = 4 - s ∧ Hid (Below w.heap.size w W) ∧ Hid (FS NoB W g f3) ∧ Hid (KeS W A9 j (rowOf itT j)) ∧ L = [(0, .int .i64 (n : Int)), (5, .pointer (some ⟨g, 0, none⟩)), (6, .slice A9 j c9), (8, .int .i64 (D3 : Int)), (9, .int .i64 (i : Int)), (12, .int .i64 (s : Int))]) ⟨0, by omega, rfl, HB11, hf12, hk11, rfl⟩ ?_
      clear HB11 hf12 hk11
      rintro mm L W ⟨s, hs, rfl, HBW, hf, hk, rfl⟩
      by_cases hs4 : s < 4
      case neg =>
        obtain rfl : s = 4 := by omega
        have t1 : decide (((4 : Nat) : Int) < 4) = false := by decide
        clear hs4 hs
        repeat (first | refine kw_seq ?_ | refine kw_region ?_ | refine kl_nil ?_ | refine kq_then ?_ | refine kq_block ?_ | refine kw_iff rfl ?_ | refine kw_exit ?_ | refine kq_then_exit ?_ | refine kq_block_here rfl ?_ | refine kq_again_exit ?_ | refine kw_skip ?_ | (first | refine kl_move rfl rfl (.inl rfl) rfl rfl ?_ | refine kl_move rfl rfl (.inr rfl) rfl rfl ?_ | refine kl_const rfl rfl (.inl rfl) rfl ?_ | refine kl_const rfl rfl (.inr rfl) rfl ?_) | ((first | refine kl_step rfl rfl rfl fun K hK => ?_ | refine kl_step0 rfl rfl rfl fun K hK => ?_); go_simp; (try go_bits); (first | refine hK _ _ ?_ | refine hK _ ?_); clear hK K))
        refine kq_again (n - i1) [0, 5, 6, 8, 9] (by have := HI.out; omega) ?_
        exact ⟨i1, f3, D3, by have := HI.out; omega, rfl, I3, HBW, hf, hk, rfl⟩
      have t1 : decide ((s : Int) < 4) = true := by rw [decide_eq_true_eq]; omega
      have t1n : decide (s < 4) = true := decide_eq_true hs4
      obtain ⟨s1, hs1⟩ : ∃ s1, s + 1 = s1 := ⟨_, rfl⟩
      have k3 : (s : Int) + 1 = (s1 : Int) := by omega
      have k4 : (0 : Int) ≤ s1 := by omega
      have k5 : (s1 : Int) ≤ 4 := by omega
      have HS := Lib.hid (And.intro hs1 hs4)
      have H0 := Lib.hid (I3.out.sec s hs4)
      clear hs1 hs4 hs
      repeat (first | refine kw_seq ?_ | refine kw_block ?_ | refine kw_region ?_ | refine kl_nil ?_ | refine kq_then ?_ | refine kw_ift rfl ?_ | refine kw_skip ?_ | (first | refine kl_move rfl rfl (.inl rfl) rfl rfl ?_ | refine kl_move rfl rfl (.inr rfl) rfl rfl ?_ | refine kl_const rfl rfl (.inl rfl) rfl ?_ | refine kl_const rfl rfl (.inr rfl) rfl ?_) | ((first | refine kl_step rfl rfl rfl fun K hK => ?_ | refine kl_step0 rfl rfl rfl fun K hK => ?_); go_simp; (try go_bits); (first | refine hK _ _ ?_ | refine hK _ ?_); clear hK K))
      refine kl_call rfl rfl rfl Try.func16 rfl (by kernel_rfl) rfl ?_
      refine Calls.mono (read_any NoB g f3 (s : Int) W hf.out) ?_
      rintro e w12 ⟨A12, n12, c12, rfl, hB12, hn12, hc12, hb12⟩
      refine ⟨_, rfl, ?_⟩
      have hlen := hB12.len
      have hf12 := Lib.hid (hf.out.below hb12)
      have hk12 := Lib.hid (hk.out.below hb12)
      have HB12 := Lib.hid (below_then HBW.out hb12 HBW.out.size)
      have h012 : 0 < n12 := by
        have := (List.getElem?_eq_some_iff.1 H0.out).1
        omega
      obtain ⟨b12, o12, rfl, hcell⟩ := hB12.2 h012
      have cx := hcell 0 (.int .u8 255) (by have h := H0.out; simp only [bv, List.getElem?_map, h]; rfl)
      rw [Nat.add_zero] at cx
      have e0 : (0 : Int) < n12 := by omega
      clear hf hk HBW hb12 hlen hB12 hcell
      repeat (first | refine kw_seq ?_ | refine kw_block ?_ | refine kw_region ?_ | refine kl_nil ?_ | refine kq_then ?_ | refine kq_block ?_ | refine kw_iff rfl ?_ | refine kw_skip ?_ | (first | refine kl_move rfl rfl (.inl rfl) rfl rfl ?_ | refine kl_move rfl rfl (.inr rfl) rfl rfl ?_ | refine kl_const rfl rfl (.inl rfl) rfl ?_ | refine kl_const rfl rfl (.inr rfl) rfl ?_) | ((first | refine kl_step rfl rfl rfl fun K hK => ?_ | refine kl_step0 rfl rfl rfl fun K hK => ?_); go_simp; (try go_bits); (first | refine hK _ _ ?_ | refine hK _ ?_); clear hK K))
      refine kq_again (4 - s1) [0, 5, 6, 8, 9, 12] (by have := HS.out; omega) ?_
      exact ⟨s1, by have := HS.out; omega, rfl, HB12, hf12, hk12, rfl⟩
  obtain rfl : i = n := by omega
  have t1 : decide ((i : Int) < (i : Int)) = false := by simp
  have t1n : decide (i < i) = false := by simp
  obtain ⟨sx, _, hnew⟩ := I.out.kep.new
  have HNW := Lib.hid hnew
  clear hin hi hnew
  repeat (first | refine kw_seq ?_ | refine kw_region ?_ | refine kl_nil ?_ | refine kq_then ?_ | refine kq_block ?_ | refine kw_iff rfl ?_ | refine kw_exit ?_ | refine kq_then_exit ?_ | refine kq_block_here rfl ?_ | refine kq_again_exit ?_ | refine kw_skip ?_ | (first | refine kl_move rfl rfl (.inl rfl) rfl rfl ?_ | refine kl_move rfl rfl (.inr rfl) rfl rfl ?_ | refine kl_const rfl rfl (.inl rfl) rfl ?_ | refine kl_const rfl rfl (.inr rfl) rfl ?_) | ((first | refine kl_step rfl rfl rfl fun K hK => ?_ | refine kl_step0 rfl rfl rfl fun K hK => ?_); go_simp; (try go_bits); (first | refine hK _ _ ?_ | refine hK _ ?_); clear hK K))
  refine kl_call rfl rfl rfl Try.func12 rfl (by kernel_rfl) rfl ?_
  refine Calls.mono (loadK_any NoB g f W hf.out) ?_
  rintro e w11 ⟨A11, n11, c11, rfl, hk11, _, _, _, hb11⟩
  refine ⟨_, rfl, ?_⟩
  rw [HNW.out] at hk11 ⊢
  dsimp only at hk11 ⊢
  have hk12 := Lib.hid (hk.out.below hb11)
  have HK11 := Lib.hid hk11
  have HB12 := Lib.hid (below_then HBW.out hb11 HBW.out.size)
  have e1 : ((i : Int) == (i : Int)) = true := by simp
  clear hk11 hk hb11 hf HBW I t1 t1n HNW
  by_cases h0 : i = 0
  case pos =>
    subst h0
    have e2 : (((0 : Nat) : Int) == 0) = true := rfl
    repeat (first | refine kw_seq ?_ | refine kw_block ?_ | refine kw_skip ?_ | refine kw_region ?_ | refine kl_nil ?_ | refine kq_then ?_ | refine kq_block ?_ | refine kw_exit ?_ | refine kq_then_exit ?_ | refine kq_block_here rfl ?_ | refine kq_block_far rfl ?_ | refine kq_again_exit ?_ | refine kw_ret ?_ | refine kq_then_ret ?_ | refine kq_block_ret ?_ | refine kq_again_ret ?_ | refine kw_ift rfl ?_ | refine kw_iff rfl ?_ | refine kl_ung rfl rfl ?_ | refine kl_skipg rfl rfl rfl rfl ?_ | refine kl_skipg0 rfl rfl rfl ?_ | (first | refine kl_move rfl rfl (.inl rfl) rfl rfl ?_ | refine kl_move rfl rfl (.inr rfl) rfl rfl ?_ | refine kl_const rfl rfl (.inl rfl) rfl ?_ | refine kl_const rfl rfl (.inr rfl) rfl ?_) | ((first | refine kl_step rfl rfl rfl fun K hK => ?_ | refine kl_step0 rfl rfl rfl fun K hK => ?_); go_simp; (try go_bits); (first | refine hK _ _ ?_ | refine hK _ ?_); clear hK K))
    exact kq_ret1 rfl rfl ⟨rfl, HB12.out⟩
  have e2 : ((i : Int) == 0) = false := by rw [beq_eq_false_iff_ne]; omega
  have e2n : (i == 0) = false := by rw [beq_eq_false_iff_ne]; exact h0
  rw [if_neg h0] at HK11
  obtain rfl : n11 = j := by have := HK11.out.len; rw [rowOf_len] at this; exact this.symm
  clear h0
  repeat (first | refine kw_seq ?_ | refine kw_region ?_ | refine kl_nil ?_ | refine kq_then ?_ | refine kw_iff rfl ?_ | refine kw_skip ?_ | refine kl_ung rfl rfl ?_ | refine kl_skipg rfl rfl rfl rfl ?_ | (first | refine kl_move rfl rfl (.inl rfl) rfl rfl ?_ | refine kl_move rfl rfl (.inr rfl) rfl rfl ?_ | refine kl_const rfl rfl (.inl rfl) rfl ?_ | refine kl_const rfl rfl (.inr rfl) rfl ?_) | ((first | refine kl_step rfl rfl rfl fun K hK => ?_ | refine kl_step0 rfl rfl rfl fun K hK => ?_); go_simp; (try go_bits); (first | refine hK _ _ ?_ | refine hK _ ?_); clear hK K))
  refine kl_call rfl rfl rfl Try.func13 rfl (by kernel_rfl) rfl ?_
  refine Calls.mono (same16_any A11 A9 n11 c11 n11 c9 (rowOf itT n11) (rowOf itT n11) w11 HK11.out hk12.out (by have := HC.out; omega) (by have := HC.out; omega)) ?_
  rintro e w13 ⟨rfl, hb13⟩
  refine ⟨_, rfl, ?_⟩
  rw [eqKs_self]
  have HB13 := Lib.hid (below_then HB12.out hb13 HB12.out.size)
  clear HK11 hk12 HB12 hb13
  repeat (first | refine kw_seq ?_ | refine kw_block ?_ | refine kw_skip ?_ | refine kw_region ?_ | refine kl_nil ?_ | refine kq_then ?_ | refine kq_block ?_ | refine kw_exit ?_ | refine kq_then_exit ?_ | refine kq_block_here rfl ?_ | refine kq_block_far rfl ?_ | refine kq_again_exit ?_ | refine kw_ret ?_ | refine kq_then_ret ?_ | refine kq_block_ret ?_ | refine kq_again_ret ?_ | refine kw_ift rfl ?_ | refine kw_iff rfl ?_ | refine kl_ung rfl rfl ?_ | refine kl_skipg rfl rfl rfl rfl ?_ | refine kl_skipg0 rfl rfl rfl ?_ | (first | refine kl_move rfl rfl (.inl rfl) rfl rfl ?_ | refine kl_move rfl rfl (.inr rfl) rfl rfl ?_ | refine kl_const rfl rfl (.inl rfl) rfl ?_ | refine kl_const rfl rfl (.inr rfl) rfl ?_) | ((first | refine kl_step rfl rfl rfl fun K hK => ?_ | refine kl_step0 rfl rfl rfl fun K hK => ?_); go_simp; (try go_bits); (first | refine hK _ _ ?_ | refine hK _ ?_); clear hK K))
  exact kq_ret1 rfl rfl ⟨rfl, HB13.out⟩
end Go.Proofs.Ytcpifcdndhhmgaa
