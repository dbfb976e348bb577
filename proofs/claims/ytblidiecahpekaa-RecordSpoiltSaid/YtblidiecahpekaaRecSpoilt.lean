/- RecordSpoilt: the walk. -/
import Derived.Test.YtblidiecahpekaaRecKnown
import Derived.Test.YtblidiecahpekaaRecSpoilP
import Derived.Test.YtblidiecahpekaaKnT
namespace Go.Proofs.Ytblidiecahpekaa
open Go.RowKit
attribute [local go_sem] ev_tmp ev_const ev_func ev_global lk_hit lk_miss uponK_value uponK_skip look_tmp look_const look_global look_func valP_value
def sbX (x : Nat) : UInt8 := u8n (2 ^ x)
def ybX (x : Nat) : UInt8 := u8n (255 - 2 ^ x)
theorem ybX_ne (x : Nat) (hx : x < 8) : ybX x ≠ 255 := by
  rcases (by omega : x = 0 ∨ x = 1 ∨ x = 2 ∨ x = 3 ∨ x = 4 ∨ x = 5 ∨ x = 6 ∨ x = 7) with rfl | rfl | rfl | rfl | rfl | rfl | rfl | rfl <;> decide
theorem u8wrap (i : Nat) (hi : i < 256) : IntKind.u8.wrap (i : Int) = ((u8n i).toNat : Int) := by
  rw [u8n_toNat, Nat.mod_eq_of_lt hi, IntWalk.u8_in _ (by omega)]
set_option maxRecDepth 100000 in
set_option maxHeartbeats 2000000 in
theorem recordSpoilt_top (zn zt zb : Int) (w : World) (_ : -9223372036854775808 ≤ zn ∧ zn ≤ 9223372036854775807) (_ : -9223372036854775808 ≤ zt ∧ zt ≤ 9223372036854775807) (hzb : -9223372036854775808 ≤ zb ∧ zb ≤ 9223372036854775807) : Calls Try.prog 5 #[.int .i64 zn, .int .i64 zt, .int .i64 zb] w fun e w' => e = .returned (.bool true) ∧ Below w.heap.size w w' := by
  refine calls_kw Try.func5 rfl Try.ntmps5 rfl [(0, .int .i64 zn), (1, .int .i64 zt), (2, .int .i64 zb)] rfl ?_
  repeat (first | refine kw_seq ?_ | refine kw_block ?_ | refine kw_skip ?_ | refine kw_region ?_ | refine kl_nil ?_ | refine kq_then ?_ | refine kq_block ?_ | refine kw_exit ?_ | refine kq_then_exit ?_ | refine kq_block_here rfl ?_ | refine kq_block_far rfl ?_ | refine kq_again_exit ?_ | refine kw_ret ?_ | refine kq_then_ret ?_ | refine kq_block_ret ?_ | refine kq_again_ret ?_ | refine kw_ift rfl ?_ | refine kw_iff rfl ?_ | refine kl_ung rfl rfl ?_ | refine kl_skipg rfl rfl rfl rfl ?_ | refine kl_skipg0 rfl rfl rfl ?_ | (first | refine kl_move rfl rfl (.inl rfl) rfl rfl ?_ | refine kl_move rfl rfl (.inr rfl) rfl rfl ?_ | refine kl_const rfl rfl (.inl rfl) rfl ?_ | refine kl_const rfl rfl (.inr rfl) rfl ?_) | ((first | refine kl_step rfl rfl rfl fun K hK => ?_ | refine kl_step0 rfl rfl rfl fun K hK => ?_); go_simp; (try go_bits); (first | refine hK _ _ ?_ | refine hK _ ?_); clear hK K))
  refine kl_call rfl rfl rfl Try.func10 rfl (by kernel_rfl) rfl ?_
  refine Calls.mono (known5_any w) ?_
  rintro e w0 ⟨rfl, hb0⟩
  refine ⟨_, rfl, ?_⟩
  repeat (first | refine kw_seq ?_ | refine kw_block ?_ | refine kw_skip ?_ | refine kw_region ?_ | refine kl_nil ?_ | refine kq_then ?_ | refine kq_block ?_ | refine kw_exit ?_ | refine kq_then_exit ?_ | refine kq_block_here rfl ?_ | refine kq_block_far rfl ?_ | refine kq_again_exit ?_ | refine kw_ret ?_ | refine kq_then_ret ?_ | refine kq_block_ret ?_ | refine kq_again_ret ?_ | refine kw_ift rfl ?_ | refine kw_iff rfl ?_ | refine kl_ung rfl rfl ?_ | refine kl_skipg rfl rfl rfl rfl ?_ | refine kl_skipg0 rfl rfl rfl ?_ | (first | refine kl_move rfl rfl (.inl rfl) rfl rfl ?_ | refine kl_move rfl rfl (.inr rfl) rfl rfl ?_ | refine kl_const rfl rfl (.inl rfl) rfl ?_ | refine kl_const rfl rfl (.inr rfl) rfl ?_) | ((first | refine kl_step rfl rfl rfl fun K hK => ?_ | refine kl_step0 rfl rfl rfl fun K hK => ?_); go_simp; (try go_bits); (first | refine hK _ _ ?_ | refine hK _ ?_); clear hK K))
  refine kl_call rfl rfl rfl Try.func11 rfl (by kernel_rfl) rfl ?_
  refine Calls.mono (within_any zn 8 8 w0 rfl (by omega) (by omega)) ?_
  rintro e _ ⟨rfl, rfl⟩
  refine ⟨_, rfl, ?_⟩
  have hk := within_lt zn 8 (by omega)
  obtain ⟨a, ha⟩ : ∃ a, within zn 8 = a := ⟨_, rfl⟩
  rw [ha] at hk ⊢
  obtain ⟨N, hN⟩ : ∃ N, 2 + a = N := ⟨_, rfl⟩
  have j1 : (2 : Int) + (a : Int) = (N : Int) := by omega
  have j2 : (0 : Int) ≤ N := by omega
  have j3 : (N : Int) ≤ 9 := by omega
  have hN0 : 0 < N := by omega
  have hN9 : N ≤ 9 := by omega
  clear ha hk hN
  repeat (first | refine kw_seq ?_ | refine kw_block ?_ | refine kw_skip ?_ | refine kw_region ?_ | refine kl_nil ?_ | refine kq_then ?_ | refine kq_block ?_ | refine kw_exit ?_ | refine kq_then_exit ?_ | refine kq_block_here rfl ?_ | refine kq_block_far rfl ?_ | refine kq_again_exit ?_ | refine kw_ret ?_ | refine kq_then_ret ?_ | refine kq_block_ret ?_ | refine kq_again_ret ?_ | refine kw_ift rfl ?_ | refine kw_iff rfl ?_ | refine kl_ung rfl rfl ?_ | refine kl_skipg rfl rfl rfl rfl ?_ | refine kl_skipg0 rfl rfl rfl ?_ | (first | refine kl_move rfl rfl (.inl rfl) rfl rfl ?_ | refine kl_move rfl rfl (.inr rfl) rfl rfl ?_ | refine kl_const rfl rfl (.inl rfl) rfl ?_ | refine kl_const rfl rfl (.inr rfl) rfl ?_) | ((first | refine kl_step rfl rfl rfl fun K hK => ?_ | refine kl_step0 rfl rfl rfl fun K hK => ?_); go_simp; (try go_bits); (first | refine hK _ _ ?_ | refine hK _ ?_); clear hK K))
  refine kl_call rfl rfl rfl Try.func11 rfl (by kernel_rfl) rfl ?_
  refine Calls.mono (within_any zt N N w0 rfl hN0 (by omega)) ?_
  rintro e _ ⟨rfl, rfl⟩
  refine ⟨_, rfl, ?_⟩
  have ht := within_lt zt N hN0
  obtain ⟨t, ht'⟩ : ∃ t, within zt N = t := ⟨_, rfl⟩
  rw [ht'] at ht ⊢
  clear ht' j1
  repeat (first | refine kw_seq ?_ | refine kw_block ?_ | refine kw_skip ?_ | refine kw_region ?_ | refine kl_nil ?_ | refine kq_then ?_ | refine kq_block ?_ | refine kw_exit ?_ | refine kq_then_exit ?_ | refine kq_block_here rfl ?_ | refine kq_block_far rfl ?_ | refine kq_again_exit ?_ | refine kw_ret ?_ | refine kq_then_ret ?_ | refine kq_block_ret ?_ | refine kq_again_ret ?_ | refine kw_ift rfl ?_ | refine kw_iff rfl ?_ | refine kl_ung rfl rfl ?_ | refine kl_skipg rfl rfl rfl rfl ?_ | refine kl_skipg0 rfl rfl rfl ?_ | (first | refine kl_move rfl rfl (.inl rfl) rfl rfl ?_ | refine kl_move rfl rfl (.inr rfl) rfl rfl ?_ | refine kl_const rfl rfl (.inl rfl) rfl ?_ | refine kl_const rfl rfl (.inr rfl) rfl ?_) | ((first | refine kl_step rfl rfl rfl fun K hK => ?_ | refine kl_step0 rfl rfl rfl fun K hK => ?_); go_simp; (try go_bits); (first | refine hK _ _ ?_ | refine hK _ ?_); clear hK K))
  refine kl_call rfl rfl rfl Try.func14 rfl (by kernel_rfl) rfl ?_
  refine Calls.mono (new_any w0) ?_
  rintro e w1 ⟨rfl, hf1, hb1⟩
  refine ⟨_, rfl, ?_⟩
  obtain ⟨g, hg⟩ : ∃ g, w0.heap.size = g := ⟨_, rfl⟩
  have HS0 := Lib.hid hb0.size
  have hb11 := below_then hb0 hb1 hb0.size
  rw [hg] at hf1 ⊢
  have HG : Hid (w.heap.size ≤ g) := by show _ ≤ _; have := HS0.out; omega
  have hf1 : FS NoB w1 g newF := hf1
  clear hg hb0 hb1
  repeat (first | refine kw_seq ?_ | refine kw_skip ?_ | refine kw_region ?_ | refine kl_nil ?_ | refine kq_then ?_ | refine kq_block ?_ | refine kw_exit ?_ | refine kq_then_exit ?_ | refine kq_block_here rfl ?_ | refine kq_block_far rfl ?_ | refine kq_again_exit ?_ | refine kw_ret ?_ | refine kq_then_ret ?_ | refine kq_block_ret ?_ | refine kq_again_ret ?_ | refine kw_ift rfl ?_ | refine kw_iff rfl ?_ | refine kl_ung rfl rfl ?_ | refine kl_skipg rfl rfl rfl rfl ?_ | refine kl_skipg0 rfl rfl rfl ?_ | (first | refine kl_move rfl rfl (.inl rfl) rfl rfl ?_ | refine kl_move rfl rfl (.inr rfl) rfl rfl ?_ | refine kl_const rfl rfl (.inl rfl) rfl ?_ | refine kl_const rfl rfl (.inr rfl) rfl ?_) | ((first | refine kl_step rfl rfl rfl fun K hK => ?_ | refine kl_step0 rfl rfl rfl fun K hK => ?_); go_simp; (try go_bits); (first | refine hK _ _ ?_ | refine hK _ ?_); clear hK K))
  refine KW.less [0, 1, 2, 7, 8] ?_
  simp only [nrm, lk, Nat.reduceBEq, cond_true, cond_false]
  refine kw_block ?_
  refine kw_loop (fun mm L W => ∃ i f, i ≤ N ∧ mm = N - i ∧ Hid (FS NoB W g f) ∧ Hid (Live f ∧ Packed (readF f ((1 : Nat) : Int)) (recN i)) ∧ Hid (Below w.heap.size w W) ∧ L = [(0, .int .i64 (N : Int)), (1, .int .i64 (t : Int)), (2, .int .i64 zb), (7, .pointer (some ⟨g, 0, none⟩)), (8, .int .i64 (i : Int))]) ⟨0, newF, by omega, rfl, hf1, ⟨live_new, packed_new 1 (by omega)⟩, hb11, rfl⟩ ?_
  clear hf1 hb11
  rintro mm L W ⟨i, f, hi, rfl, hF, hP, hb, rfl⟩
  by_cases hlt : i < N
  case pos =>
    have t1 : decide ((i : Int) < (N : Int)) = true := by rw [decide_eq_true_eq]; omega
    have t1n : decide (i < N) = true := decide_eq_true hlt
    have hex := append_packed f hP.out.1 1 (by omega) _ hP.out.2 (recK i) (by show 3 ≤ 1018; omega) (by rw [recN_used, recK_pages]; omega)
    obtain ⟨f2, ha, hL2, hP2, _⟩ := hex
    rw [show recN i ++ [recK i] = recN (i + 1) from (recN_succ i).symm] at hP2
    rw [show ((1 : Nat) : Int) = 1 from rfl] at ha
    have HE := Lib.hid ha
    have HP2 := Lib.hid (And.intro hL2 hP2)
    have HF0 := hF.out
    obtain ⟨i1, hi1⟩ : ∃ i1, i + 1 = i1 := ⟨_, rfl⟩
    have k1 : (i : Int) + 1 = (i1 : Int) := by omega
    have k2 : (0 : Int) ≤ i1 := by omega
    have k3 : (i1 : Int) ≤ 64 := by omega
    have k4 := u8wrap i (by omega)
    have HI := Lib.hid (And.intro hi1 hlt)
    rw [hi1] at HP2
    clear hlt ha hL2 hP2 hi1 hi
    repeat (first | refine kw_seq ?_ | refine kw_block ?_ | refine kw_region ?_ | refine kl_nil ?_ | refine kq_then ?_ | refine kw_ift rfl ?_ | refine kw_skip ?_ | (first | refine kl_move rfl rfl (.inl rfl) rfl rfl ?_ | refine kl_move rfl rfl (.inr rfl) rfl rfl ?_ | refine kl_const rfl rfl (.inl rfl) rfl ?_ | refine kl_const rfl rfl (.inr rfl) rfl ?_) | ((first | refine kl_step rfl rfl rfl fun K hK => ?_ | refine kl_step0 rfl rfl rfl fun K hK => ?_); go_simp; (try go_bits); (first | refine hK _ _ ?_ | refine hK _ ?_); clear hK K))
    have hl : Bs (W.alloc (.cells #[.int .u8 255, .int .u8 ((u8n i).toNat : Int), .int .u8 255] 5)) (some ⟨W.heap.size, 0, none⟩) 3 (recK i) := Bs.lit _ rfl (recK i) rfl rfl
    have hf3 := HF0.below ((Below.refl _ _).alloc (Nat.le_refl W.heap.size) (.cells #[.int .u8 255, .int .u8 ((u8n i).toNat : Int), .int .u8 255] 5))
    have hb13 := hb.out.alloc hb.out.size (.cells #[.int .u8 255, .int .u8 ((u8n i).toNat : Int), .int .u8 255] 5)
    generalize W.alloc (.cells #[.int .u8 255, .int .u8 ((u8n i).toNat : Int), .int .u8 255] 5) = w3 at hl hf3 hb13 ⊢
    clear HF0 hF hb
    refine kl_call rfl rfl rfl Try.func15 rfl (by kernel_rfl) rfl ?_
    refine Calls.mono (append_any NoB g (noB g) f 1 (some ⟨W.heap.size, 0, none⟩) 3 3 (recK i) w3 hf3 (by omega) hl (by omega) (by omega)) ?_
    rintro e w4 ⟨rfl, hf4, hg4⟩
    refine ⟨_, rfl, ?_⟩
    rw [HE.out] at hf4 ⊢
    dsimp only at hf4 ⊢
    have hb14 := below_grown hb13 hg4 hb13.size (by have := HG.out; omega)
    clear hf3 hb13 hg4 hl k4
    repeat (first | refine kw_seq ?_ | refine kw_block ?_ | refine kw_region ?_ | refine kl_nil ?_ | refine kq_then ?_ | refine kq_block ?_ | refine kw_iff rfl ?_ | refine kw_skip ?_ | (first | refine kl_move rfl rfl (.inl rfl) rfl rfl ?_ | refine kl_move rfl rfl (.inr rfl) rfl rfl ?_ | refine kl_const rfl rfl (.inl rfl) rfl ?_ | refine kl_const rfl rfl (.inr rfl) rfl ?_) | ((first | refine kl_step rfl rfl rfl fun K hK => ?_ | refine kl_step0 rfl rfl rfl fun K hK => ?_); go_simp; (try go_bits); (first | refine hK _ _ ?_ | refine hK _ ?_); clear hK K))
    refine kq_again (N - i1) [0, 1, 2, 7, 8] (by have := HI.out; omega) ?_
    exact ⟨i1, f2, by have := HI.out; omega, rfl, hf4, HP2, hb14, rfl⟩
  obtain rfl : i = N := by omega
  have t1 : decide ((i : Int) < (i : Int)) = false := by simp
  have HF0 := hF.out
  clear hlt hi
  repeat (first | refine kw_seq ?_ | refine kw_block ?_ | refine kw_skip ?_ | refine kw_region ?_ | refine kl_nil ?_ | refine kq_then ?_ | refine kq_block ?_ | refine kw_exit ?_ | refine kq_then_exit ?_ | refine kq_block_here rfl ?_ | refine kq_block_far rfl ?_ | refine kq_again_exit ?_ | refine kw_ret ?_ | refine kq_then_ret ?_ | refine kq_block_ret ?_ | refine kq_again_ret ?_ | refine kw_ift rfl ?_ | refine kw_iff rfl ?_ | refine kl_ung rfl rfl ?_ | refine kl_skipg rfl rfl rfl rfl ?_ | refine kl_skipg0 rfl rfl rfl ?_ | (first | refine kl_move rfl rfl (.inl rfl) rfl rfl ?_ | refine kl_move rfl rfl (.inr rfl) rfl rfl ?_ | refine kl_const rfl rfl (.inl rfl) rfl ?_ | refine kl_const rfl rfl (.inr rfl) rfl ?_) | ((first | refine kl_step rfl rfl rfl fun K hK => ?_ | refine kl_step0 rfl rfl rfl fun K hK => ?_); go_simp; (try go_bits); (first | refine hK _ _ ?_ | refine hK _ ?_); clear hK K))
  refine kl_call rfl rfl rfl Try.func18 rfl (by kernel_rfl) rfl ?_
  refine Calls.mono (read_any NoB g f 1 W HF0) ?_
  rintro e w2 ⟨A, n, c, rfl, hB, hnc, hc, hb2⟩
  refine ⟨_, rfl, ?_⟩
  have hrl := read_len f 1 (by omega) hP.out.1.len
  rw [show ((1 : Nat) : Int) = 1 from rfl] at hrl
  have hn : n = 1024 := by rw [← hB.len]; exact hrl
  subst hn
  have hc1 : c = 1024 := by omega
  subst hc1
  obtain ⟨gb, ob, rfl⟩ := hB.some_ (by omega)
  have hf2 := HF0.below hb2
  have hb12 := below_then hb.out hb2 hb.out.size
  clear hrl hnc hc HF0 hF hb hb2
  obtain ⟨q, hq⟩ : ∃ q, 16 * t = q := ⟨_, rfl⟩
  obtain ⟨e, he⟩ : ∃ e, q + 16 = e := ⟨_, rfl⟩
  have k1 : (16 : Int) * (t : Int) = (q : Int) := by omega
  have k2 : (q : Int) + 16 = (e : Int) := by omega
  have k3 : (0 : Int) ≤ q := by omega
  have k4 : (q : Int) ≤ 200 := by omega
  have k5 : (e : Int) ≤ 1024 := by omega
  have k6 : (q : Int) ≤ e := by omega
  have k7 : (0 : Int) ≤ e := by omega
  have k8 : e - q = 16 := by omega
  have k9 : ¬ (1024 = q) := by omega
  have hBm := hB.mid_ (j := q) (k := e) (cap := 1024) (by omega) (by omega) (by omega)
  rw [if_neg k9, k8] at hBm
  have hBm : Bs w2 (some ⟨gb, ob + q, none⟩) 16 (((readF f 1).take e).drop q) := by simpa [add_lit] using hBm
  have HB := Lib.hid hBm
  have HQ := Lib.hid (And.intro hq he)
  clear hBm hB hq he
  repeat (first | refine kw_seq ?_ | refine kw_region ?_ | refine kl_nil ?_ | refine kq_then ?_ | (first | refine kl_move rfl rfl (.inl rfl) rfl rfl ?_ | refine kl_move rfl rfl (.inr rfl) rfl rfl ?_ | refine kl_const rfl rfl (.inl rfl) rfl ?_ | refine kl_const rfl rfl (.inr rfl) rfl ?_) | ((first | refine kl_step rfl rfl rfl fun K hK => ?_ | refine kl_step0 rfl rfl rfl fun K hK => ?_); go_simp; (try go_bits); (first | refine hK _ _ ?_ | refine hK _ ?_); clear hK K))
  have hpage : ((readF f 1).take e).drop q = recP (recK t) := by
    have h1 := page_of (readF f ((1 : Nat) : Int)) i t ht hP.out.2
    rw [← HQ.out.2, ← HQ.out.1]; exact h1
  have HB3 := Lib.hid (HB.out.below ((Below.refl _ _).alloc (Nat.le_refl w2.heap.size) (.cells #[] 5)))
  have hf3 := hf2.below ((Below.refl _ _).alloc (Nat.le_refl w2.heap.size) (.cells #[] 5))
  have hb13 := hb12.alloc hb12.size (.cells #[] 5)
  have hs3 : Below w2.heap.size w2 (w2.alloc (.cells #[] 5)) := (Below.refl _ _).alloc (Nat.le_refl _) _
  have ho3 : (w2.alloc (.cells #[] 5)).ownsRow w2.heap.size 5 1 (.slice (some ⟨w2.heap.size, 0, none⟩) 0 0) 0 [] := World.ownsRow_made w2 #[] 0 (Nat.le_refl _) (by simp [maxLen]) rfl
  rw [hpage] at HB3
  clear hpage HB
  generalize w2.alloc (.cells #[] 5) = w3 at HB3 hf3 hb13 ho3 hs3 ⊢
  refine kl_appendV 32 5 _ 1 Try.underlying32 byteInfo rfl w2.heap.size _ 0 [] ho3 _ 16 _ (bv (recP (recK t))) HB3.out (bv_one _) (by omega) (by omega) hs3.size rfl rfl rfl rfl rfl rfl fun v' w4 ho4 hg4 _ => ?_
  have ho4 : w4.ownsRow w2.heap.size 5 1 v' 16 (bv (recP (recK t))) := by simpa using ho4
  have hg4 : w3.grownBy w4 (some w2.heap.size) := hg4
  have hb14 := below_grown hb13 hg4 hb13.size hb12.size
  have hf4 : FS NoB w4 g f := hf2.below (below_grown hs3 hg4 hs3.size (Nat.le_refl _))
  obtain ⟨gp, cp, rfl, hgp, hgl, hcp, hcp2⟩ := own_form ho4 (by omega)
  have HO4 := Lib.hid ho4
  have hj := within_lt zb 2 (by omega)
  obtain ⟨j, hjj⟩ : ∃ j, within zb 2 = j := ⟨_, rfl⟩
  rw [hjj] at hj
  obtain ⟨Q, hQ⟩ : ∃ Q, 6 + 2 * j = Q := ⟨_, rfl⟩
  obtain ⟨J, hJ⟩ : ∃ J, 2 * j = J := ⟨_, rfl⟩
  have l0 : (2 : Int) * (j : Int) = (J : Int) := by omega
  have l1 : (6 : Int) + (J : Int) = (Q : Int) := by omega
  have l2 : (0 : Int) ≤ Q := by omega
  have l3 : (Q : Int) < 16 := by omega
  have l4 : (0 : Int) ≤ J := by omega
  have l5 : (J : Int) ≤ 2 := by omega
  obtain ⟨D, hD⟩ : ∃ D, Int.tdiv zb 2 = D := ⟨_, rfl⟩
  have hDb : -9223372036854775808 ≤ D ∧ D ≤ 9223372036854775807 := by
    have := Int.natAbs_tdiv zb 2
    rw [hD] at this
    have this : D.natAbs = zb.natAbs / 2 := this
    omega
  have hpay := page_pay t j hj
  rw [hQ] at hpay
  obtain ⟨_, _, e4, o41, o42, hV4, _⟩ := own_slice ho4
  injection e4 with e41 _ e43
  subst e41; subst e43
  have hB4 : Bs w4 (some ⟨gp, 0, none⟩) 16 (recP (recK t)) := hV4
  have hc4 : w4.cell? ⟨gp, Q, none⟩ = some (.int .u8 255) := by
    obtain ⟨b', o', e', hc⟩ := hB4.2 (by omega)
    injection e' with e'
    injection e' with e1 e2
    subst e1; subst e2
    have := hc Q (.int .u8 ((255 : UInt8).toNat : Int)) (by simp [bv, hpay])
    simpa using this
  have hz4 : w4.frozen? ⟨gp, Q, none⟩ = false := by
    rcases HO4.out.2 with ⟨h0, _⟩ | ⟨g', cap, cur, hv, _, hgb, _⟩
    · cases h0
    · injection hv with hv _ _
      injection hv with hv
      injection hv with hv _ _
      subst hv
      exact free_of_block hgb
  have HGL := Lib.hid hf2.lt
  have HD := Lib.hid hD
  have HQQ := Lib.hid (And.intro hQ (And.intro hj hpay))
  have HJJ := Lib.hid hjj
  clear hB4 o41 o42 hV4 hQ hJ hjj hpay hj ho4 ho3 hs3 hf3 hb13 hb12 hf2 hgl hg4
  repeat (first | refine kw_seq ?_ | refine kl_nil ?_ | refine kq_then ?_ | (first | refine kl_move rfl rfl (.inl rfl) rfl rfl ?_ | refine kl_move rfl rfl (.inr rfl) rfl rfl ?_ | refine kl_const rfl rfl (.inl rfl) rfl ?_ | refine kl_const rfl rfl (.inr rfl) rfl ?_) | ((first | refine kl_step rfl rfl rfl fun K hK => ?_ | refine kl_step0 rfl rfl rfl fun K hK => ?_); go_simp; (try go_bits); (first | refine hK _ _ ?_ | refine hK _ ?_); clear hK K))
  have hc5 : w4.drew.cell? ⟨gp, Q, none⟩ = some (.int .u8 255) := hc4
  have hz5 : w4.drew.frozen? ⟨gp, Q, none⟩ = false := hz4
  have HO5 : Hid (w4.drew.ownsRow w2.heap.size 5 1 (.slice (some ⟨gp, 0, none⟩) 16 cp) 16 (bv (recP (recK t)))) := HO4
  have hf5 : FS NoB w4.drew g f := hf4.below ⟨rfl, rfl, rfl, Nat.le_refl _, fun _ _ => rfl⟩
  have hb15 : Below w.heap.size w w4.drew := below_drewN' hb14 1
  clear hc4 hz4 HO4 hf4 hb14
  refine kw_region_o (fun _ => True) [true, true, false, true, true, true, false, true, true, false, true, true, true, true, false] (by kernel_rfl) (by kernel_rfl) trivial ?_
  generalize w4.drew = w5 at hc5 hz5 HO5 hf5 hb15 ⊢
  refine kt_seg [0, 1, 7, 8, 2, 3, 4, 5] [6, 9, 10, 11, 12, 13, 14] (by kernel_rfl) ?_
  simp only [pickO, pickF, nthO, nthB]
  repeat (first | refine kf_nil ?_ | refine kf_ung rfl rfl ?_ | refine kf_skipg rfl rfl rfl rfl ?_ | (first | refine kf_move rfl rfl (.inl rfl) rfl rfl ?_ | refine kf_move rfl rfl (.inr rfl) rfl rfl ?_ | refine kf_const rfl rfl (.inl rfl) rfl ?_ | refine kf_const rfl rfl (.inr rfl) rfl ?_) | (refine kf_val rfl rfl rfl ?_; apply Exists.intro; refine And.intro (fun W hW N hN => ?_) ?_; · (go_simp; (try go_bits); exact hN)))
  refine kf_ch ?_
  refine kl_call rfl rfl rfl Try.func11 rfl (by kernel_rfl) rfl ?_
  refine Calls.mono (within_any zb 2 2 _ rfl (by omega) (by omega)) ?_
  rintro e _ ⟨rfl, rfl⟩
  rw [HJJ.out]
  refine ⟨_, rfl, ?_⟩
  refine kl_nil ?_
  refine kq_f trivial ?_
  repeat (first | refine kf_nil ?_ | refine kf_ung rfl rfl ?_ | refine kf_skipg rfl rfl rfl rfl ?_ | (first | refine kf_move rfl rfl (.inl rfl) rfl rfl ?_ | refine kf_move rfl rfl (.inr rfl) rfl rfl ?_ | refine kf_const rfl rfl (.inl rfl) rfl ?_ | refine kf_const rfl rfl (.inr rfl) rfl ?_) | (refine kf_val rfl rfl rfl ?_; apply Exists.intro; refine And.intro (fun W hW N hN => ?_) ?_; · (go_simp; (try go_bits); exact hN)))
  refine kt_more ?_
  refine kt_fork2 6 9 (by kernel_rfl) ?_ ?_
  all_goals simp only [pickO, pickF, nthO, nthB]
  · repeat (first | refine kf_nil ?_ | refine kf_ung rfl rfl ?_ | refine kf_skipg rfl rfl rfl rfl ?_ | (first | refine kf_move rfl rfl (.inl rfl) rfl rfl ?_ | refine kf_move rfl rfl (.inr rfl) rfl rfl ?_ | refine kf_const rfl rfl (.inl rfl) rfl ?_ | refine kf_const rfl rfl (.inr rfl) rfl ?_) | (refine kf_val rfl rfl rfl ?_; apply Exists.intro; refine And.intro (fun W hW N hN => ?_) ?_; · (go_simp; (try go_bits); exact hN)))
    refine kf_ch ?_
    ((first | refine kl_step rfl rfl rfl fun K hK => ?_ | refine kl_step0 rfl rfl rfl fun K hK => ?_); go_simp; (try go_bits); (first | refine hK _ _ ?_ | refine hK _ ?_); clear hK K)
    refine kl_nil ?_
    refine kq_f trivial ?_
    repeat (first | refine kf_nil ?_ | refine kf_ung rfl rfl ?_ | refine kf_skipg rfl rfl rfl rfl ?_ | (first | refine kf_move rfl rfl (.inl rfl) rfl rfl ?_ | refine kf_move rfl rfl (.inr rfl) rfl rfl ?_ | refine kf_const rfl rfl (.inl rfl) rfl ?_ | refine kf_const rfl rfl (.inr rfl) rfl ?_) | (refine kf_val rfl rfl rfl ?_; apply Exists.intro; refine And.intro (fun W hW N hN => ?_) ?_; · (go_simp; (try go_bits); exact hN)))
    refine kt_more ?_
    refine kt_seg [9, 10, 11, 12, 13, 14] [] (by kernel_rfl) ?_
    simp only [pickO, pickF, nthO, nthB]
    repeat (first | refine kf_nil ?_ | refine kf_ung rfl rfl ?_ | refine kf_skipg rfl rfl rfl rfl ?_ | (first | refine kf_move rfl rfl (.inl rfl) rfl rfl ?_ | refine kf_move rfl rfl (.inr rfl) rfl rfl ?_ | refine kf_const rfl rfl (.inl rfl) rfl ?_ | refine kf_const rfl rfl (.inr rfl) rfl ?_) | (refine kf_val rfl rfl rfl ?_; apply Exists.intro; refine And.intro (fun W hW N hN => ?_) ?_; · (go_simp; (try go_bits); exact hN)))
    refine kf_ch ?_
    refine kl_call rfl rfl rfl Try.func11 rfl (by kernel_rfl) rfl ?_
    refine Calls.mono (within_any D 8 8 _ rfl (by omega) (by omega)) ?_
    rintro e _ ⟨rfl, rfl⟩
    refine ⟨_, rfl, ?_⟩
    refine kl_nil ?_
    refine kq_f trivial ?_
    have hx := within_lt D 8 (by omega)
    obtain ⟨x, hxe⟩ : ∃ x, within D 8 = x := ⟨_, rfl⟩
    rw [hxe] at hx ⊢
    clear hxe
    have x0 : (0 : Int) ≤ x := by omega
    have x1 : (x : Int) < 8 := by omega
    have hxc : x = 0 ∨ x = 1 ∨ x = 2 ∨ x = 3 ∨ x = 4 ∨ x = 5 ∨ x = 6 ∨ x = 7 := by omega
    (refine kf_val rfl rfl rfl ?_; apply Exists.intro; refine And.intro (fun W hW N hN => ?_) ?_; · (go_simp; (try go_bits); exact hN))
    refine kf_val rfl rfl rfl ?_
    refine ⟨.int .u8 ((sbX x).toNat : Int), fun W hW N hN => ?_, ?_⟩
    · rcases hxc with rfl | rfl | rfl | rfl | rfl | rfl | rfl | rfl <;> (go_simp; (try go_bits); exact hN)
    refine kf_val rfl rfl rfl ?_
    refine ⟨.int .u8 ((ybX x).toNat : Int), fun W hW N hN => ?_, ?_⟩
    · rcases hxc with rfl | rfl | rfl | rfl | rfl | rfl | rfl | rfl <;> (go_simp; (try go_bits); exact hN)
    repeat (first | refine kf_nil ?_ | refine kf_ung rfl rfl ?_ | refine kf_skipg rfl rfl rfl rfl ?_ | (first | refine kf_move rfl rfl (.inl rfl) rfl rfl ?_ | refine kf_move rfl rfl (.inr rfl) rfl rfl ?_ | refine kf_const rfl rfl (.inl rfl) rfl ?_ | refine kf_const rfl rfl (.inr rfl) rfl ?_) | (refine kf_val rfl rfl rfl ?_; apply Exists.intro; refine And.intro (fun W hW N hN => ?_) ?_; · (go_simp; (try go_bits); exact hN)))
    refine kf_ch ?_
    ((first | refine kl_step rfl rfl rfl fun K hK => ?_ | refine kl_step0 rfl rfl rfl fun K hK => ?_); go_simp; (try go_bits); (first | refine hK _ _ ?_ | refine hK _ ?_); clear hK K)
    have HO6 := own_set HO5.out Q (ybX x)
    have hf6 := hf5.other (grown_set w5 gp Q (.int .u8 ((ybX x).toNat : Int))) (by have := HGL.out; omega) (noB gp)
    have hwgp : w.heap.size ≤ gp := by have := HG.out; have := HGL.out; omega
    have hb16 := hb15.setCell (p := ⟨gp, Q, none⟩) hwgp (.int .u8 ((ybX x).toNat : Int))
    clear hc5 hz5 HO5 hf5 hb15
    generalize w5.setCell ⟨gp, Q, none⟩ (.int .u8 ((ybX x).toNat : Int)) = w6 at HO6 hf6 hb16 ⊢
    refine kl_nil ?_
    refine kq_f trivial ?_
    repeat (first | refine kf_nil ?_ | refine kf_ung rfl rfl ?_ | refine kf_skipg rfl rfl rfl rfl ?_ | (first | refine kf_move rfl rfl (.inl rfl) rfl rfl ?_ | refine kf_move rfl rfl (.inr rfl) rfl rfl ?_ | refine kf_const rfl rfl (.inl rfl) rfl ?_ | refine kf_const rfl rfl (.inr rfl) rfl ?_) | (refine kf_val rfl rfl rfl ?_; apply Exists.intro; refine And.intro (fun W hW N hN => ?_) ?_; · (go_simp; (try go_bits); exact hN)))
    refine kt_done ?_
    have HXX := Lib.hid (ybX_ne x hx)
    obtain ⟨f2, hpr, hld⟩ := spoil_flash f hP.out.1 i t (by omega) ht hP.out.2 j HQQ.out.2.1 (ybX x) HXX.out
    rw [HQQ.out.1] at hpr
    have happ := spoil_append f2 _ hld
    rw [show ((1 : Nat) : Int) = 1 from rfl] at hpr hld happ
    have HPR := Lib.hid hpr
    have HLD := Lib.hid hld
    have HAP := Lib.hid happ
    obtain ⟨_, _, e6, o61, o62, hV6, _⟩ := own_slice HO6
    injection e6 with e61 _ e63
    subst e61; subst e63
    have HB6 : Hid (Bs w6 (some ⟨gp, 0, none⟩) 16 (spoilP (recK t) Q (ybX x))) := hV6
    clear hpr hld happ hV6 o61 o62 HO6 hx x0 x1 l0 l1 l2 l3 l4 l5 hxc
    repeat (first | refine kw_seq ?_ | refine kw_block ?_ | refine kw_skip ?_ | refine kw_region ?_ | refine kl_nil ?_ | refine kq_then ?_ | refine kq_block ?_ | refine kw_exit ?_ | refine kq_then_exit ?_ | refine kq_block_here rfl ?_ | refine kq_block_far rfl ?_ | refine kq_again_exit ?_ | refine kw_ret ?_ | refine kq_then_ret ?_ | refine kq_block_ret ?_ | refine kq_again_ret ?_ | refine kw_ift rfl ?_ | refine kw_iff rfl ?_ | refine kl_ung rfl rfl ?_ | refine kl_skipg rfl rfl rfl rfl ?_ | refine kl_skipg0 rfl rfl rfl ?_ | (first | refine kl_move rfl rfl (.inl rfl) rfl rfl ?_ | refine kl_move rfl rfl (.inr rfl) rfl rfl ?_ | refine kl_const rfl rfl (.inl rfl) rfl ?_ | refine kl_const rfl rfl (.inr rfl) rfl ?_) | ((first | refine kl_step rfl rfl rfl fun K hK => ?_ | refine kl_step0 rfl rfl rfl fun K hK => ?_); go_simp; (try go_bits); (first | refine hK _ _ ?_ | refine hK _ ?_); clear hK K))
    refine kl_call rfl rfl rfl Try.func19 rfl (by kernel_rfl) rfl ?_
    refine Calls.mono (program_any NoB g (noB g) f 1 (t : Int) (some ⟨gp, 0, none⟩) 16 cp (spoilP (recK t) Q (ybX x)) w6 hf6 HB6.out hcp hcp2) ?_
    rintro e w7 ⟨rfl, hf7, hg7⟩
    refine ⟨_, rfl, ?_⟩
    rw [HPR.out] at hf7 ⊢
    dsimp only at hf7 ⊢
    have hb17 := below_grown hb16 hg7 hb16.size (by have := HG.out; omega)
    clear hf6 hb16 hg7 HB6
    repeat (first | refine kw_seq ?_ | refine kw_block ?_ | refine kw_skip ?_ | refine kw_region ?_ | refine kl_nil ?_ | refine kq_then ?_ | refine kq_block ?_ | refine kw_exit ?_ | refine kq_then_exit ?_ | refine kq_block_here rfl ?_ | refine kq_block_far rfl ?_ | refine kq_again_exit ?_ | refine kw_ret ?_ | refine kq_then_ret ?_ | refine kq_block_ret ?_ | refine kq_again_ret ?_ | refine kw_ift rfl ?_ | refine kw_iff rfl ?_ | refine kl_ung rfl rfl ?_ | refine kl_skipg rfl rfl rfl rfl ?_ | refine kl_skipg0 rfl rfl rfl ?_ | (first | refine kl_move rfl rfl (.inl rfl) rfl rfl ?_ | refine kl_move rfl rfl (.inr rfl) rfl rfl ?_ | refine kl_const rfl rfl (.inl rfl) rfl ?_ | refine kl_const rfl rfl (.inr rfl) rfl ?_) | ((first | refine kl_step rfl rfl rfl fun K hK => ?_ | refine kl_step0 rfl rfl rfl fun K hK => ?_); go_simp; (try go_bits); (first | refine hK _ _ ?_ | refine hK _ ?_); clear hK K))
    refine kl_call rfl rfl rfl Try.func16 rfl (by kernel_rfl) rfl ?_
    refine Calls.mono (load_any NoB g f2 1 w7 hf7) ?_
    rintro e w8 ⟨A2, n2, c2, rfl, hp2, _, _, hb8⟩
    refine ⟨_, rfl, ?_⟩
    have hn2 := ps_len hp2
    rw [HLD.out] at hn2 ⊢
    have hn2 : n2 = t := by rw [← hn2]; simp [recN]
    subst hn2
    have hb18 := below_then hb17 hb8 hb17.size
    have hf8 := hf7.below hb8
    clear hp2 hf7 hb17 hb8
    repeat (first | refine kw_seq ?_ | refine kw_block ?_ | refine kw_skip ?_ | refine kw_region ?_ | refine kl_nil ?_ | refine kq_then ?_ | refine kq_block ?_ | refine kw_exit ?_ | refine kq_then_exit ?_ | refine kq_block_here rfl ?_ | refine kq_block_far rfl ?_ | refine kq_again_exit ?_ | refine kw_ret ?_ | refine kq_then_ret ?_ | refine kq_block_ret ?_ | refine kq_again_ret ?_ | refine kw_ift rfl ?_ | refine kw_iff rfl ?_ | refine kl_ung rfl rfl ?_ | refine kl_skipg rfl rfl rfl rfl ?_ | refine kl_skipg0 rfl rfl rfl ?_ | (first | refine kl_move rfl rfl (.inl rfl) rfl rfl ?_ | refine kl_move rfl rfl (.inr rfl) rfl rfl ?_ | refine kl_const rfl rfl (.inl rfl) rfl ?_ | refine kl_const rfl rfl (.inr rfl) rfl ?_) | ((first | refine kl_step rfl rfl rfl fun K hK => ?_ | refine kl_step0 rfl rfl rfl fun K hK => ?_); go_simp; (try go_bits); (first | refine hK _ _ ?_ | refine hK _ ?_); clear hK K))
    refine kl_call rfl rfl rfl Try.func15 rfl (by kernel_rfl) rfl ?_
    refine Calls.mono (append_any NoB g (noB g) f2 1 none 0 0 [] w8 hf8 (by omega) (Vs.nil _ _) (by omega) (by omega)) ?_
    rintro e w9 ⟨rfl, hf9, hg9⟩
    refine ⟨_, rfl, ?_⟩
    rw [HAP.out] at hf9 ⊢
    dsimp only at hf9 ⊢
    have hb19 := below_grown hb18 hg9 hb18.size (by have := HG.out; omega)
    repeat (first | refine kw_seq ?_ | refine kw_block ?_ | refine kw_skip ?_ | refine kw_region ?_ | refine kl_nil ?_ | refine kq_then ?_ | refine kq_block ?_ | refine kw_exit ?_ | refine kq_then_exit ?_ | refine kq_block_here rfl ?_ | refine kq_block_far rfl ?_ | refine kq_again_exit ?_ | refine kw_ret ?_ | refine kq_then_ret ?_ | refine kq_block_ret ?_ | refine kq_again_ret ?_ | refine kw_ift rfl ?_ | refine kw_iff rfl ?_ | refine kl_ung rfl rfl ?_ | refine kl_skipg rfl rfl rfl rfl ?_ | refine kl_skipg0 rfl rfl rfl ?_ | (first | refine kl_move rfl rfl (.inl rfl) rfl rfl ?_ | refine kl_move rfl rfl (.inr rfl) rfl rfl ?_ | refine kl_const rfl rfl (.inl rfl) rfl ?_ | refine kl_const rfl rfl (.inr rfl) rfl ?_) | ((first | refine kl_step rfl rfl rfl fun K hK => ?_ | refine kl_step0 rfl rfl rfl fun K hK => ?_); go_simp; (try go_bits); (first | refine hK _ _ ?_ | refine hK _ ?_); clear hK K))
    exact kq_ret1 rfl rfl ⟨rfl, hb19⟩
  · repeat (first | refine kf_nil ?_ | refine kf_ung rfl rfl ?_ | refine kf_skipg rfl rfl rfl rfl ?_ | (first | refine kf_move rfl rfl (.inl rfl) rfl rfl ?_ | refine kf_move rfl rfl (.inr rfl) rfl rfl ?_ | refine kf_const rfl rfl (.inl rfl) rfl ?_ | refine kf_const rfl rfl (.inr rfl) rfl ?_) | (refine kf_val rfl rfl rfl ?_; apply Exists.intro; refine And.intro (fun W hW N hN => ?_) ?_; · (go_simp; (try go_bits); exact hN)))
    refine kf_ch ?_
    refine kl_call rfl rfl rfl Try.func11 rfl (by kernel_rfl) rfl ?_
    refine Calls.mono (within_any D 8 8 _ rfl (by omega) (by omega)) ?_
    rintro e _ ⟨rfl, rfl⟩
    refine ⟨_, rfl, ?_⟩
    refine kl_nil ?_
    refine kq_f trivial ?_
    have hx := within_lt D 8 (by omega)
    obtain ⟨x, hxe⟩ : ∃ x, within D 8 = x := ⟨_, rfl⟩
    rw [hxe] at hx ⊢
    clear hxe
    have x0 : (0 : Int) ≤ x := by omega
    have x1 : (x : Int) < 8 := by omega
    have hxc : x = 0 ∨ x = 1 ∨ x = 2 ∨ x = 3 ∨ x = 4 ∨ x = 5 ∨ x = 6 ∨ x = 7 := by omega
    repeat (first | refine kf_nil ?_ | refine kf_ung rfl rfl ?_ | refine kf_skipg rfl rfl rfl rfl ?_ | (first | refine kf_move rfl rfl (.inl rfl) rfl rfl ?_ | refine kf_move rfl rfl (.inr rfl) rfl rfl ?_ | refine kf_const rfl rfl (.inl rfl) rfl ?_ | refine kf_const rfl rfl (.inr rfl) rfl ?_) | (refine kf_val rfl rfl rfl ?_; apply Exists.intro; refine And.intro (fun W hW N hN => ?_) ?_; · (go_simp; (try go_bits); exact hN)))
    refine kt_more ?_
    refine kt_seg [10, 11, 6, 12, 13, 14] [] (by kernel_rfl) ?_
    simp only [pickO, pickF, nthO, nthB]
    (refine kf_val rfl rfl rfl ?_; apply Exists.intro; refine And.intro (fun W hW N hN => ?_) ?_; · (go_simp; (try go_bits); exact hN))
    refine kf_val rfl rfl rfl ?_
    refine ⟨.int .u8 ((sbX x).toNat : Int), fun W hW N hN => ?_, ?_⟩
    · rcases hxc with rfl | rfl | rfl | rfl | rfl | rfl | rfl | rfl <;> (go_simp; (try go_bits); exact hN)
    repeat (first | refine kf_nil ?_ | refine kf_ung rfl rfl ?_ | refine kf_skipg rfl rfl rfl rfl ?_ | (first | refine kf_move rfl rfl (.inl rfl) rfl rfl ?_ | refine kf_move rfl rfl (.inr rfl) rfl rfl ?_ | refine kf_const rfl rfl (.inl rfl) rfl ?_ | refine kf_const rfl rfl (.inr rfl) rfl ?_) | (refine kf_val rfl rfl rfl ?_; apply Exists.intro; refine And.intro (fun W hW N hN => ?_) ?_; · (go_simp; (try go_bits); exact hN)))
    refine kf_ch ?_
    ((first | refine kl_step rfl rfl rfl fun K hK => ?_ | refine kl_step0 rfl rfl rfl fun K hK => ?_); go_simp; (try go_bits); (first | refine hK _ _ ?_ | refine hK _ ?_); clear hK K)
    refine kl_nil ?_
    refine kq_f trivial ?_
    refine kf_val rfl rfl rfl ?_
    refine ⟨.int .u8 ((ybX x).toNat : Int), fun W hW N hN => ?_, ?_⟩
    · rcases hxc with rfl | rfl | rfl | rfl | rfl | rfl | rfl | rfl <;> (go_simp; (try go_bits); exact hN)
    repeat (first | refine kf_nil ?_ | refine kf_ung rfl rfl ?_ | refine kf_skipg rfl rfl rfl rfl ?_ | (first | refine kf_move rfl rfl (.inl rfl) rfl rfl ?_ | refine kf_move rfl rfl (.inr rfl) rfl rfl ?_ | refine kf_const rfl rfl (.inl rfl) rfl ?_ | refine kf_const rfl rfl (.inr rfl) rfl ?_) | (refine kf_val rfl rfl rfl ?_; apply Exists.intro; refine And.intro (fun W hW N hN => ?_) ?_; · (go_simp; (try go_bits); exact hN)))
    refine kf_ch ?_
    ((first | refine kl_step rfl rfl rfl fun K hK => ?_ | refine kl_step0 rfl rfl rfl fun K hK => ?_); go_simp; (try go_bits); (first | refine hK _ _ ?_ | refine hK _ ?_); clear hK K)
    have HO6 := own_set HO5.out Q (ybX x)
    have hf6 := hf5.other (grown_set w5 gp Q (.int .u8 ((ybX x).toNat : Int))) (by have := HGL.out; omega) (noB gp)
    have hwgp : w.heap.size ≤ gp := by have := HG.out; have := HGL.out; omega
    have hb16 := hb15.setCell (p := ⟨gp, Q, none⟩) hwgp (.int .u8 ((ybX x).toNat : Int))
    clear hc5 hz5 HO5 hf5 hb15
    generalize w5.setCell ⟨gp, Q, none⟩ (.int .u8 ((ybX x).toNat : Int)) = w6 at HO6 hf6 hb16 ⊢
    refine kl_nil ?_
    refine kq_f trivial ?_
    repeat (first | refine kf_nil ?_ | refine kf_ung rfl rfl ?_ | refine kf_skipg rfl rfl rfl rfl ?_ | (first | refine kf_move rfl rfl (.inl rfl) rfl rfl ?_ | refine kf_move rfl rfl (.inr rfl) rfl rfl ?_ | refine kf_const rfl rfl (.inl rfl) rfl ?_ | refine kf_const rfl rfl (.inr rfl) rfl ?_) | (refine kf_val rfl rfl rfl ?_; apply Exists.intro; refine And.intro (fun W hW N hN => ?_) ?_; · (go_simp; (try go_bits); exact hN)))
    refine kt_done ?_
    have HXX := Lib.hid (ybX_ne x hx)
    obtain ⟨f2, hpr, hld⟩ := spoil_flash f hP.out.1 i t (by omega) ht hP.out.2 j HQQ.out.2.1 (ybX x) HXX.out
    rw [HQQ.out.1] at hpr
    have happ := spoil_append f2 _ hld
    rw [show ((1 : Nat) : Int) = 1 from rfl] at hpr hld happ
    have HPR := Lib.hid hpr
    have HLD := Lib.hid hld
    have HAP := Lib.hid happ
    obtain ⟨_, _, e6, o61, o62, hV6, _⟩ := own_slice HO6
    injection e6 with e61 _ e63
    subst e61; subst e63
    have HB6 : Hid (Bs w6 (some ⟨gp, 0, none⟩) 16 (spoilP (recK t) Q (ybX x))) := hV6
    clear hpr hld happ hV6 o61 o62 HO6 hx x0 x1 l0 l1 l2 l3 l4 l5 hxc
    repeat (first | refine kw_seq ?_ | refine kw_block ?_ | refine kw_skip ?_ | refine kw_region ?_ | refine kl_nil ?_ | refine kq_then ?_ | refine kq_block ?_ | refine kw_exit ?_ | refine kq_then_exit ?_ | refine kq_block_here rfl ?_ | refine kq_block_far rfl ?_ | refine kq_again_exit ?_ | refine kw_ret ?_ | refine kq_then_ret ?_ | refine kq_block_ret ?_ | refine kq_again_ret ?_ | refine kw_ift rfl ?_ | refine kw_iff rfl ?_ | refine kl_ung rfl rfl ?_ | refine kl_skipg rfl rfl rfl rfl ?_ | refine kl_skipg0 rfl rfl rfl ?_ | (first | refine kl_move rfl rfl (.inl rfl) rfl rfl ?_ | refine kl_move rfl rfl (.inr rfl) rfl rfl ?_ | refine kl_const rfl rfl (.inl rfl) rfl ?_ | refine kl_const rfl rfl (.inr rfl) rfl ?_) | ((first | refine kl_step rfl rfl rfl fun K hK => ?_ | refine kl_step0 rfl rfl rfl fun K hK => ?_); go_simp; (try go_bits); (first | refine hK _ _ ?_ | refine hK _ ?_); clear hK K))
    refine kl_call rfl rfl rfl Try.func19 rfl (by kernel_rfl) rfl ?_
    refine Calls.mono (program_any NoB g (noB g) f 1 (t : Int) (some ⟨gp, 0, none⟩) 16 cp (spoilP (recK t) Q (ybX x)) w6 hf6 HB6.out hcp hcp2) ?_
    rintro e w7 ⟨rfl, hf7, hg7⟩
    refine ⟨_, rfl, ?_⟩
    rw [HPR.out] at hf7 ⊢
    dsimp only at hf7 ⊢
    have hb17 := below_grown hb16 hg7 hb16.size (by have := HG.out; omega)
    clear hf6 hb16 hg7 HB6
    repeat (first | refine kw_seq ?_ | refine kw_block ?_ | refine kw_skip ?_ | refine kw_region ?_ | refine kl_nil ?_ | refine kq_then ?_ | refine kq_block ?_ | refine kw_exit ?_ | refine kq_then_exit ?_ | refine kq_block_here rfl ?_ | refine kq_block_far rfl ?_ | refine kq_again_exit ?_ | refine kw_ret ?_ | refine kq_then_ret ?_ | refine kq_block_ret ?_ | refine kq_again_ret ?_ | refine kw_ift rfl ?_ | refine kw_iff rfl ?_ | refine kl_ung rfl rfl ?_ | refine kl_skipg rfl rfl rfl rfl ?_ | refine kl_skipg0 rfl rfl rfl ?_ | (first | refine kl_move rfl rfl (.inl rfl) rfl rfl ?_ | refine kl_move rfl rfl (.inr rfl) rfl rfl ?_ | refine kl_const rfl rfl (.inl rfl) rfl ?_ | refine kl_const rfl rfl (.inr rfl) rfl ?_) | ((first | refine kl_step rfl rfl rfl fun K hK => ?_ | refine kl_step0 rfl rfl rfl fun K hK => ?_); go_simp; (try go_bits); (first | refine hK _ _ ?_ | refine hK _ ?_); clear hK K))
    refine kl_call rfl rfl rfl Try.func16 rfl (by kernel_rfl) rfl ?_
    refine Calls.mono (load_any NoB g f2 1 w7 hf7) ?_
    rintro e w8 ⟨A2, n2, c2, rfl, hp2, _, _, hb8⟩
    refine ⟨_, rfl, ?_⟩
    have hn2 := ps_len hp2
    rw [HLD.out] at hn2 ⊢
    have hn2 : n2 = t := by rw [← hn2]; simp [recN]
    subst hn2
    have hb18 := below_then hb17 hb8 hb17.size
    have hf8 := hf7.below hb8
    clear hp2 hf7 hb17 hb8
    repeat (first | refine kw_seq ?_ | refine kw_block ?_ | refine kw_skip ?_ | refine kw_region ?_ | refine kl_nil ?_ | refine kq_then ?_ | refine kq_block ?_ | refine kw_exit ?_ | refine kq_then_exit ?_ | refine kq_block_here rfl ?_ | refine kq_block_far rfl ?_ | refine kq_again_exit ?_ | refine kw_ret ?_ | refine kq_then_ret ?_ | refine kq_block_ret ?_ | refine kq_again_ret ?_ | refine kw_ift rfl ?_ | refine kw_iff rfl ?_ | refine kl_ung rfl rfl ?_ | refine kl_skipg rfl rfl rfl rfl ?_ | refine kl_skipg0 rfl rfl rfl ?_ | (first | refine kl_move rfl rfl (.inl rfl) rfl rfl ?_ | refine kl_move rfl rfl (.inr rfl) rfl rfl ?_ | refine kl_const rfl rfl (.inl rfl) rfl ?_ | refine kl_const rfl rfl (.inr rfl) rfl ?_) | ((first | refine kl_step rfl rfl rfl fun K hK => ?_ | refine kl_step0 rfl rfl rfl fun K hK => ?_); go_simp; (try go_bits); (first | refine hK _ _ ?_ | refine hK _ ?_); clear hK K))
    refine kl_call rfl rfl rfl Try.func15 rfl (by kernel_rfl) rfl ?_
    refine Calls.mono (append_any NoB g (noB g) f2 1 none 0 0 [] w8 hf8 (by omega) (Vs.nil _ _) (by omega) (by omega)) ?_
    rintro e w9 ⟨rfl, hf9, hg9⟩
    refine ⟨_, rfl, ?_⟩
    rw [HAP.out] at hf9 ⊢
    dsimp only at hf9 ⊢
    have hb19 := below_grown hb18 hg9 hb18.size (by have := HG.out; omega)
    repeat (first | refine kw_seq ?_ | refine kw_block ?_ | refine kw_skip ?_ | refine kw_region ?_ | refine kl_nil ?_ | refine kq_then ?_ | refine kq_block ?_ | refine kw_exit ?_ | refine kq_then_exit ?_ | refine kq_block_here rfl ?_ | refine kq_block_far rfl ?_ | refine kq_again_exit ?_ | refine kw_ret ?_ | refine kq_then_ret ?_ | refine kq_block_ret ?_ | refine kq_again_ret ?_ | refine kw_ift rfl ?_ | refine kw_iff rfl ?_ | refine kl_ung rfl rfl ?_ | refine kl_skipg rfl rfl rfl rfl ?_ | refine kl_skipg0 rfl rfl rfl ?_ | (first | refine kl_move rfl rfl (.inl rfl) rfl rfl ?_ | refine kl_move rfl rfl (.inr rfl) rfl rfl ?_ | refine kl_const rfl rfl (.inl rfl) rfl ?_ | refine kl_const rfl rfl (.inr rfl) rfl ?_) | ((first | refine kl_step rfl rfl rfl fun K hK => ?_ | refine kl_step0 rfl rfl rfl fun K hK => ?_); go_simp; (try go_bits); (first | refine hK _ _ ?_ | refine hK _ ?_); clear hK K))
    exact kq_ret1 rfl rfl ⟨rfl, hb19⟩
end Go.Proofs.Ytblidiecahpekaa
