/- Mark of the document. -/
import Derived.Test.YtkncomkncfcecaaSlotMark
import Derived.Test.YtkncomkncfcecaaSlotBootR
import Derived.Test.YtkncomkncfcecaaRecAppR
import Derived.Test.YtkncomkncfcecaaRefErase
set_option linter.unusedVariables false
set_option linter.unusedSimpArgs false
namespace Go.Proofs.Ytkncomkncfcecaa
open Go.RowKit
attribute [local go_sem] ev_tmp ev_const ev_func ev_global lk_hit lk_miss uponK_value uponK_skip look_tmp look_const look_global look_func valP_value
def lastK (f : FlashSt) : Nat → Int × Int
  | 0 => (0, 0)
  | 1 => (secE f 0).foldl (stepM 0) (0, 0)
  | _ => lastR f
theorem lastK_next (f : FlashSt) (s : Nat) (hs : s < 2) : (secE f (s : Int)).foldl (stepM (s : Int)) (lastK f s) = lastK f (s + 1) := by
  rcases (by omega : s = 0 ∨ s = 1) with rfl | rfl <;> rfl
set_option maxRecDepth 100000 in
set_option maxHeartbeats 8000000 in
theorem markR_any (Q : Nat → Prop) (g : Nat) (hQ : ∀ b, Q b → b ≠ g) (f : FlashSt) (slot : Int) (sum : List UInt8) (w : World) (h : RF Q w g f) (hs : sum.length = 32) (hsl : I64 slot) : Calls Try.prog 22 #[.pointer (some ⟨g, 0, none⟩), .int .i64 slot, .agg (bv sum).toArray] w (DoP RF Q g (markP f slot sum) w) := by
  have hglt := h.lt
  unfold I64 at hsl
  refine calls_kw Try.func22 rfl Try.ntmps22 rfl [(0, .pointer (some ⟨g, 0, none⟩)), (1, .int .i64 slot), (2, .agg (bv sum).toArray)] rfl ?_
  refine kw_seq ?_
  refine kw_region ?_
  refine kl_boxL (Lay.start w) rfl rfl rfl rfl rfl ?_
  intro g5 w1 hg5 hb1 hL1
  have hg5w : w.heap.size ≤ g5 := by omega
  clear hg5
  by_cases d1 : slot < 0
  · have t1 : decide (slot < 0) = true := decide_eq_true d1
    have HE := Lib.hid (mark_arg (f := f) (sum := sum) (.inl d1))
    clear d1
    repeat (first | refine kw_seq ?_ | refine kw_block ?_ | refine kw_skip ?_ | refine kw_region ?_ | refine kl_nil ?_ | refine kq_then ?_ | refine kq_block ?_ | refine kw_exit ?_ | refine kq_then_exit ?_ | refine kq_block_here rfl ?_ | refine kq_block_far rfl ?_ | refine kq_again_exit ?_ | refine kw_ret ?_ | refine kq_then_ret ?_ | refine kq_block_ret ?_ | refine kq_again_ret ?_ | refine kw_ift rfl ?_ | refine kw_iff rfl ?_ | refine kl_ung rfl rfl ?_ | refine kl_skipg rfl rfl rfl rfl ?_ | refine kl_skipg0 rfl rfl rfl ?_ | (first | refine kl_move rfl rfl (.inl rfl) rfl rfl ?_ | refine kl_move rfl rfl (.inr rfl) rfl rfl ?_ | refine kl_const rfl rfl (.inl rfl) rfl ?_ | refine kl_const rfl rfl (.inr rfl) rfl ?_) | ((first | refine kl_step rfl rfl rfl fun K hK => ?_ | refine kl_step0 rfl rfl rfl fun K hK => ?_); go_simp; (try go_bits); (first | refine hK _ _ ?_ | refine hK _ ?_); clear hK K))
    exact kq_ret1 rfl rfl ⟨by rw [HE.out], by rw [HE.out]; exact h.below hb1, grown_below hb1 _⟩
  have t1 : decide (slot < 0) = false := decide_eq_false d1
  by_cases d2 : 2 < slot
  · have t2 : decide (2 < slot) = true := decide_eq_true d2
    have HE := Lib.hid (mark_arg (f := f) (sum := sum) (.inr d2))
    clear d1 d2
    repeat (first | refine kw_seq ?_ | refine kw_block ?_ | refine kw_skip ?_ | refine kw_region ?_ | refine kl_nil ?_ | refine kq_then ?_ | refine kq_block ?_ | refine kw_exit ?_ | refine kq_then_exit ?_ | refine kq_block_here rfl ?_ | refine kq_block_far rfl ?_ | refine kq_again_exit ?_ | refine kw_ret ?_ | refine kq_then_ret ?_ | refine kq_block_ret ?_ | refine kq_again_ret ?_ | refine kw_ift rfl ?_ | refine kw_iff rfl ?_ | refine kl_ung rfl rfl ?_ | refine kl_skipg rfl rfl rfl rfl ?_ | refine kl_skipg0 rfl rfl rfl ?_ | (first | refine kl_move rfl rfl (.inl rfl) rfl rfl ?_ | refine kl_move rfl rfl (.inr rfl) rfl rfl ?_ | refine kl_const rfl rfl (.inl rfl) rfl ?_ | refine kl_const rfl rfl (.inr rfl) rfl ?_) | ((first | refine kl_step rfl rfl rfl fun K hK => ?_ | refine kl_step0 rfl rfl rfl fun K hK => ?_); go_simp; (try go_bits); (first | refine hK _ _ ?_ | refine hK _ ?_); clear hK K))
    exact kq_ret1 rfl rfl ⟨by rw [HE.out], by rw [HE.out]; exact h.below hb1, grown_below hb1 _⟩
  have t2 : decide (2 < slot) = false := decide_eq_false d2
  have HSL : Hid (¬ (slot < 0 ∨ 2 < slot)) := by show ¬ _; omega
  have HSI : Hid (I64 slot) := by show I64 slot; unfold I64; omega
  clear d1 d2
  have h1 := h.below hb1
  have HL1 := Lib.hid hL1
  clear hL1 hb1
  repeat (first | refine kw_seq ?_ | refine kl_nil ?_ | refine kq_then ?_ | refine kw_region ?_ | refine kw_iff rfl ?_ | refine kw_skip ?_ | refine kl_ung rfl rfl ?_ | (first | refine kl_move rfl rfl (.inl rfl) rfl rfl ?_ | refine kl_move rfl rfl (.inr rfl) rfl rfl ?_ | refine kl_const rfl rfl (.inl rfl) rfl ?_ | refine kl_const rfl rfl (.inr rfl) rfl ?_) | ((first | refine kl_step rfl rfl rfl fun K hK => ?_ | refine kl_step0 rfl rfl rfl fun K hK => ?_); go_simp; (try go_bits); (first | refine hK _ _ ?_ | refine hK _ ?_); clear hK K))
  refine KW.less [0, 1, 5, 7, 8, 9] ?_
  simp only [nrm, lk, Nat.reduceBEq, cond_true, cond_false]
  clear t1 t2
  refine kw_block ?_
  refine kw_loop (fun mm L W => ∃ s st, s ≤ 2 ∧ mm = 2 - s ∧ Hid (st = lastK f s) ∧ Hid (0 ≤ st.1 ∧ st.1 ≤ 1073741824 ∧ (st.2 = 0 ∨ st.2 = 1)) ∧ Hid (Lay w W [(g5, (bv sum).toArray, 29)]) ∧ L = [(0, .pointer (some ⟨g, 0, none⟩)), (1, .int .i64 slot), (5, .pointer (some ⟨g5, 0, none⟩)), (7, .int .i64 st.1), (8, .int .i64 st.2), (9, .int .i64 (s : Int))]) ⟨0, (0, 0), by omega, rfl, by show _ = _; rfl, ⟨by decide, by decide, .inl rfl⟩, HL1, rfl⟩ ?_
  clear HL1 h1
  rintro mm L W ⟨s, ⟨sq, sc⟩, hs2, rfl, hst, hsb, hL, rfl⟩
  dsimp only at hsb ⊢
  by_cases hlt : s < 2
  case pos =>
    have t1 : decide ((s : Int) < 2) = true := by rw [decide_eq_true_eq]; omega
    have t1n : decide (s < 2) = true := decide_eq_true hlt
    obtain ⟨s1, hs1⟩ : ∃ s1, s + 1 = s1 := ⟨_, rfl⟩
    have k1 : (s : Int) + 1 = (s1 : Int) := by omega
    have k2 : (0 : Int) ≤ s1 := by omega
    have k3 : (s1 : Int) ≤ 64 := by omega
    have hnx := lastK_next f s hlt
    rw [hs1, ← hst.out] at hnx
    have HI := Lib.hid (And.intro hs1 hlt)
    clear hs1
    repeat (first | refine kw_seq ?_ | refine kw_block ?_ | refine kw_region ?_ | refine kl_nil ?_ | refine kq_then ?_ | refine kw_ift rfl ?_ | refine kw_skip ?_ | (first | refine kl_move rfl rfl (.inl rfl) rfl rfl ?_ | refine kl_move rfl rfl (.inr rfl) rfl rfl ?_ | refine kl_const rfl rfl (.inl rfl) rfl ?_ | refine kl_const rfl rfl (.inr rfl) rfl ?_) | ((first | refine kl_step rfl rfl rfl fun K hK => ?_ | refine kl_step0 rfl rfl rfl fun K hK => ?_); go_simp; (try go_bits); (first | refine hK _ _ ?_ | refine hK _ ?_); clear hK K))
    refine kl_call rfl rfl rfl Try.func45 rfl (by kernel_rfl) rfl ?_
    refine Calls.mono (entries_any Q g f (s : Int) W (h.below hL.out.below) (by omega)) ?_
    rintro e w3 ⟨ve, rfl, hOe, hb3⟩
    refine ⟨_, rfl, ?_⟩
    have hL3 := Lib.hid (hL.out.next hb3)
    clear hL hb3 t1 t1n
    have hgood := entsR_good (loadR (readF f (s : Int))).1
    obtain ⟨A3, c3, rfl, hen, hec, hec9, _⟩ := hOe.ens
    have hcnt := secE_len f (s : Int)
    obtain ⟨es, hes⟩ : ∃ es, secE f (s : Int) = es := ⟨_, rfl⟩
    have HGD : Hid (∀ e ∈ es, GoodE e) := by rw [← hes]; exact hgood
    rw [hes] at hen hec hcnt hnx ⊢
    have HNX := Lib.hid hnx
    obtain ⟨N, hN⟩ : ∃ N, es.length = N := ⟨_, rfl⟩
    rw [hN] at hen hec hcnt ⊢
    have HN := Lib.hid hN
    have HEN := Lib.hid hen
    clear hgood hOe hes hN hen hnx
    repeat (first | refine kw_seq ?_ | refine kw_region ?_ | refine kl_nil ?_ | refine kq_then ?_ | (first | refine kl_move rfl rfl (.inl rfl) rfl rfl ?_ | refine kl_move rfl rfl (.inr rfl) rfl rfl ?_ | refine kl_const rfl rfl (.inl rfl) rfl ?_ | refine kl_const rfl rfl (.inr rfl) rfl ?_) | ((first | refine kl_step rfl rfl rfl fun K hK => ?_ | refine kl_step0 rfl rfl rfl fun K hK => ?_); go_simp; (try go_bits); (first | refine hK _ _ ?_ | refine hK _ ?_); clear hK K))
    refine KW.less [0, 1, 5, 7, 8, 9, 10, 11] ?_
    simp only [nrm, lk, Nat.reduceBEq, cond_true, cond_false]
    refine kw_block ?_
    refine kw_loop (fun mm L W => ∃ k st, k ≤ N ∧ mm = N - k ∧ Hid ((es.take k).foldl (stepM (s : Int)) (sq, sc) = st) ∧ Hid (0 ≤ st.1 ∧ st.1 ≤ 1073741824 ∧ (st.2 = 0 ∨ st.2 = 1)) ∧ Hid (Lay w W [(g5, (bv sum).toArray, 29)]) ∧ Hid (EnS W A3 N es) ∧ L = [(0, .pointer (some ⟨g, 0, none⟩)), (1, .int .i64 slot), (5, .pointer (some ⟨g5, 0, none⟩)), (7, .int .i64 st.1), (8, .int .i64 st.2), (9, .int .i64 (s : Int)), (10, .slice A3 N c3), (11, .int .i64 (k : Int))]) ⟨0, (sq, sc), by omega, rfl, by show _ = _; rfl, hsb, hL3, HEN, rfl⟩ ?_
    clear hL3 HEN hsb
    rintro mm L W ⟨k, ⟨kq, ks⟩, hk, rfl, hkt, hkb, hL, hE, rfl⟩
    dsimp only at hkb ⊢
    by_cases hkn : k < N
    case neg =>
      obtain rfl : k = N := by omega
      have t1 : decide ((k : Int) < (k : Int)) = false := by simp
      have t1n : decide (k < k) = false := by simp
      have hfin : Hid ((kq, ks) = lastK f s1) := by
        have := hkt.out
        rw [List.take_of_length_le (by rw [HN.out]; exact Nat.le_refl _), HNX.out] at this
        exact this.symm
      clear hkn hkt
      repeat (first | refine kw_seq ?_ | refine kw_region ?_ | refine kl_nil ?_ | refine kq_then ?_ | refine kq_block ?_ | refine kw_iff rfl ?_ | refine kw_exit ?_ | refine kq_then_exit ?_ | refine kq_block_here rfl ?_ | refine kw_skip ?_ | (first | refine kl_move rfl rfl (.inl rfl) rfl rfl ?_ | refine kl_move rfl rfl (.inr rfl) rfl rfl ?_ | refine kl_const rfl rfl (.inl rfl) rfl ?_ | refine kl_const rfl rfl (.inr rfl) rfl ?_) | ((first | refine kl_step rfl rfl rfl fun K hK => ?_ | refine kl_step0 rfl rfl rfl fun K hK => ?_); go_simp; (try go_bits); (first | refine hK _ _ ?_ | refine hK _ ?_); clear hK K))
      refine kq_again (2 - s1) [0, 1, 5, 7, 8, 9] (by have := HI.out; omega) ?_
      exact ⟨s1, (kq, ks), by have := HI.out; omega, rfl, hfin, hkb, hL, rfl⟩
    have t1 : decide ((k : Int) < (N : Int)) = true := by rw [decide_eq_true_eq]; omega
    have t1n : decide (k < N) = true := decide_eq_true hkn
    have u0 : (0 : Int) ≤ k := by omega
    have u1 : (k : Int) < N := by omega
    obtain ⟨nk, hnk⟩ : ∃ nk, k + 1 = nk := ⟨_, rfl⟩
    have i3 : (k : Int) + 1 = (nk : Int) := by omega
    have i4 : (0 : Int) ≤ nk := by omega
    have i5 : (nk : Int) ≤ 65 := by omega
    have HNK := Lib.hid (And.intro hnk hkn)
    obtain ⟨gA, oA, e, rfl, hra, hes, hx1, hx2⟩ := hE.out.next hkn
    have hgd := HGD.out e (List.mem_of_getElem? hx2.out)
    have HKT : Hid ((es.take nk).foldl (stepM (s : Int)) (sq, sc) = stepM (s : Int) (kq, ks) e) := by
      show _ = _
      rw [← HNK.out.1, hx1.out, List.foldl_append, hkt.out]; rfl
    obtain ⟨oi, hoi⟩ : ∃ oi, oA + k * 34 = oi := ⟨_, rfl⟩
    rw [hoi] at hra
    have ce := hra 0 (.int .i64 e.seq) rfl
    rw [Nat.add_zero] at ce
    obtain ⟨es1, hes1⟩ : ∃ es1, e.seq = es1 := ⟨_, rfl⟩
    have hsq := hgd.seq
    rw [hes1] at ce hsq
    have HES := Lib.hid hes1
    clear hra hgd hnk hkn hkt hes1
    by_cases hgt : kq < es1
    · have t2 : decide (kq < es1) = true := decide_eq_true hgt
      have hk2 : Hid ((es.take nk).foldl (stepM (s : Int)) (sq, sc) = (es1, (s : Int))) := by
        show _ = _
        rw [HKT.out]; unfold stepM; rw [if_pos (by rw [HES.out]; exact hgt), HES.out]
      clear hgt
      repeat (first | refine kw_seq ?_ | refine kw_block ?_ | refine kw_region ?_ | refine kl_nil ?_ | refine kq_then ?_ | refine kq_block ?_ | refine kw_ift rfl ?_ | refine kw_skip ?_ | (first | refine kl_move rfl rfl (.inl rfl) rfl rfl ?_ | refine kl_move rfl rfl (.inr rfl) rfl rfl ?_ | refine kl_const rfl rfl (.inl rfl) rfl ?_ | refine kl_const rfl rfl (.inr rfl) rfl ?_) | ((first | refine kl_step rfl rfl rfl fun K hK => ?_ | refine kl_step0 rfl rfl rfl fun K hK => ?_); go_simp; (try go_bits); (first | refine hK _ _ ?_ | refine hK _ ?_); clear hK K))
      refine kq_again (N - nk) [0, 1, 5, 7, 8, 9, 10, 11] (by have := HNK.out; omega) ?_
      exact ⟨nk, (es1, (s : Int)), by have := HNK.out; omega, rfl, hk2, ⟨by dsimp only; omega, by dsimp only; omega, by dsimp only; have := HI.out; omega⟩, hL, hE, rfl⟩
    · have t2 : decide (kq < es1) = false := decide_eq_false hgt
      have hk2 : Hid ((es.take nk).foldl (stepM (s : Int)) (sq, sc) = (kq, ks)) := by
        show _ = _
        rw [HKT.out]; unfold stepM; rw [if_neg (by rw [HES.out]; exact hgt)]
      clear hgt
      repeat (first | refine kw_seq ?_ | refine kw_block ?_ | refine kw_region ?_ | refine kl_nil ?_ | refine kq_then ?_ | refine kq_block ?_ | refine kw_ift rfl ?_ | refine kw_iff rfl ?_ | refine kw_skip ?_ | (first | refine kl_move rfl rfl (.inl rfl) rfl rfl ?_ | refine kl_move rfl rfl (.inr rfl) rfl rfl ?_ | refine kl_const rfl rfl (.inl rfl) rfl ?_ | refine kl_const rfl rfl (.inr rfl) rfl ?_) | ((first | refine kl_step rfl rfl rfl fun K hK => ?_ | refine kl_step0 rfl rfl rfl fun K hK => ?_); go_simp; (try go_bits); (first | refine hK _ _ ?_ | refine hK _ ?_); clear hK K))
      refine kq_again (N - nk) [0, 1, 5, 7, 8, 9, 10, 11] (by have := HNK.out; omega) ?_
      exact ⟨nk, (kq, ks), by have := HNK.out; omega, rfl, hk2, hkb, hL, hE, rfl⟩
  obtain rfl : s = 2 := by omega
  have t1 : decide (((2 : Nat) : Int) < 2) = false := by decide
  have hle : lastP f = (sq, sc) := by rw [← last_eq]; exact hst.out.symm
  obtain ⟨q, hq'⟩ : ∃ q, sq = q := ⟨_, rfl⟩
  subst hq'
  have hq : (lastP f).1 = sq := by rw [hle]
  have HSC : Hid ((lastP f).2 = sc) := by show _ = _; rw [hle]
  have hbd := hsb.out
  clear hlt hst hle hsb
  by_cases hov : 1073741824 ≤ sq
  · have t3 : decide (1073741824 ≤ sq) = true := decide_eq_true hov
    have HE := Lib.hid (mark_over (f := f) (sum := sum) HSL.out (by rw [hq]; exact hov))
    clear hov hbd
    repeat (first | refine kw_seq ?_ | refine kw_block ?_ | refine kw_skip ?_ | refine kw_region ?_ | refine kl_nil ?_ | refine kq_then ?_ | refine kq_block ?_ | refine kw_exit ?_ | refine kq_then_exit ?_ | refine kq_block_here rfl ?_ | refine kq_block_far rfl ?_ | refine kq_again_exit ?_ | refine kw_ret ?_ | refine kq_then_ret ?_ | refine kq_block_ret ?_ | refine kq_again_ret ?_ | refine kw_ift rfl ?_ | refine kw_iff rfl ?_ | refine kl_ung rfl rfl ?_ | refine kl_skipg rfl rfl rfl rfl ?_ | refine kl_skipg0 rfl rfl rfl ?_ | (first | refine kl_move rfl rfl (.inl rfl) rfl rfl ?_ | refine kl_move rfl rfl (.inr rfl) rfl rfl ?_ | refine kl_const rfl rfl (.inl rfl) rfl ?_ | refine kl_const rfl rfl (.inr rfl) rfl ?_) | ((first | refine kl_step rfl rfl rfl fun K hK => ?_ | refine kl_step0 rfl rfl rfl fun K hK => ?_); go_simp; (try go_bits); (first | refine hK _ _ ?_ | refine hK _ ?_); clear hK K))
    exact kq_ret1 rfl rfl ⟨by rw [HE.out], by rw [HE.out]; exact h.below hL.out.below, grown_below hL.out.below _⟩
  have t3 : decide (1073741824 ≤ sq) = false := decide_eq_false hov
  obtain ⟨q1, hq1⟩ : ∃ q1, sq + 1 = q1 := ⟨_, rfl⟩
  have a1 : 0 ≤ q1 := by omega
  have a2 : q1 ≤ 1073741825 := by omega
  have HQ1 : Hid ((lastP f).1 + 1 = q1) := by show _ = _; rw [hq]; exact hq1
  have HNO : Hid (¬ 1073741824 ≤ (lastP f).1) := by show ¬ _; rw [hq]; exact hov
  have HQI : Hid (I64 q1) := by show I64 q1; unfold I64; omega
  have LG := hL.out
  clear hov hq
  repeat (first | refine kw_seq ?_ | refine kw_region ?_ | refine kl_nil ?_ | refine kq_then ?_ | refine kw_iff rfl ?_ | refine kw_exit ?_ | refine kq_then_exit ?_ | refine kq_block_here rfl ?_ | refine kw_skip ?_ | (first | refine kl_move rfl rfl (.inl rfl) rfl rfl ?_ | refine kl_move rfl rfl (.inr rfl) rfl rfl ?_ | refine kl_const rfl rfl (.inl rfl) rfl ?_ | refine kl_const rfl rfl (.inr rfl) rfl ?_) | refine kl_getL LG 0 rfl Try.underlying29 rfl (hash_1 sum hs) rfl rfl rfl rfl rfl ?_ | refine kl_build 59 _ (entC ⟨q1, slot, sum⟩).toArray rfl rfl rfl (by rfl) (by rfl) (rentBuilt3 q1 slot sum hs) ?_ | ((first | refine kl_step rfl rfl rfl fun K hK => ?_ | refine kl_step0 rfl rfl rfl fun K hK => ?_); go_simp; (try go_bits); (first | refine hK _ _ ?_ | refine hK _ ?_); clear hK K))
  refine kl_call rfl rfl rfl Try.func46 rfl (by kernel_rfl) rfl ?_
  refine Calls.mono (eBytesR_any ⟨q1, slot, sum⟩ _ hs HQI.out HSI.out) ?_
  rintro e w8 ⟨v8, rfl, ho8, hb8⟩
  refine ⟨_, rfl, ?_⟩
  have h8w := ownsRow_base ho8 LG.below.size
  have hb08 := below_then LG.below hb8 LG.below.size
  obtain ⟨A8, c8, rfl, hB8, hn8, hc8, haw⟩ := eb_own h8w
  have HAW : Hid (0 < 48 → Away g A8) := fun _ a e => by have := haw a e; omega
  obtain ⟨b, hbe⟩ : ∃ b, bytesE ⟨q1, slot, sum⟩ = b := ⟨_, rfl⟩
  rw [hbe] at hB8
  have HM := mark_go (f := f) (sum := sum) HSL.out HNO.out (q := q1) (s := sc) HQ1.out HSC.out
  rw [hbe] at HM
  obtain ⟨r1, hr1⟩ : ∃ r1, appendP f sc b = r1 := ⟨_, rfl⟩
  have HR1 := Lib.hid hr1
  have HM := Lib.hid HM
  have h8 := h.below hb08
  have HB8 := Lib.hid hB8
  have hg8 := grown_below hb08 (some g)
  clear hbe ho8 h8w haw hr1 hB8 hb8 hL LG
  repeat (first | (first | refine kl_move rfl rfl (.inl rfl) rfl rfl ?_ | refine kl_move rfl rfl (.inr rfl) rfl rfl ?_ | refine kl_const rfl rfl (.inl rfl) rfl ?_ | refine kl_const rfl rfl (.inr rfl) rfl ?_) | ((first | refine kl_step rfl rfl rfl fun K hK => ?_ | refine kl_step0 rfl rfl rfl fun K hK => ?_); go_simp; (try go_bits); (first | refine hK _ _ ?_ | refine hK _ ?_); clear hK K) | refine kl_nil ?_ | refine kq_then ?_ | refine kw_seq ?_ | refine kw_region ?_)
  refine kl_call rfl rfl rfl Try.func44 rfl (by kernel_rfl) rfl ?_
  refine Calls.mono (appendR_any Q g hQ f sc A8 48 c8 b w8 h8 (by omega) HB8.out hn8 hc8) ?_
  rintro e w9 ⟨rfl, h9, hg9⟩
  refine ⟨_, rfl, ?_⟩
  rw [HR1.out] at h9 ⊢
  have HG9 := Lib.hid (grown_trans hg8 hg9)
  have HB9 := Lib.hid (HB8.out.grownKeep0 hg9 HAW.out)
  clear h8 hg8 hg9 HB8
  obtain ⟨e1, f1⟩ := r1
  dsimp only at h9 ⊢
  by_cases h4 : e1 = 4
  case neg =>
    have t4 : (e1 != 4) = true := bne_iff_ne.2 h4
    have HW := Lib.hid (HM.out.trans (write_1 HR1.out h4))
    clear h4
    repeat (first | refine kw_seq ?_ | refine kw_block ?_ | refine kw_skip ?_ | refine kw_region ?_ | refine kl_nil ?_ | refine kq_then ?_ | refine kq_block ?_ | refine kw_exit ?_ | refine kq_then_exit ?_ | refine kq_block_here rfl ?_ | refine kq_block_far rfl ?_ | refine kq_again_exit ?_ | refine kw_ret ?_ | refine kq_then_ret ?_ | refine kq_block_ret ?_ | refine kq_again_ret ?_ | refine kw_ift rfl ?_ | refine kw_iff rfl ?_ | refine kl_ung rfl rfl ?_ | refine kl_skipg rfl rfl rfl rfl ?_ | refine kl_skipg0 rfl rfl rfl ?_ | (first | refine kl_move rfl rfl (.inl rfl) rfl rfl ?_ | refine kl_move rfl rfl (.inr rfl) rfl rfl ?_ | refine kl_const rfl rfl (.inl rfl) rfl ?_ | refine kl_const rfl rfl (.inr rfl) rfl ?_) | ((first | refine kl_step rfl rfl rfl fun K hK => ?_ | refine kl_step0 rfl rfl rfl fun K hK => ?_); go_simp; (try go_bits); (first | refine hK _ _ ?_ | refine hK _ ?_); clear hK K))
    exact kq_ret1 rfl rfl ⟨by rw [HW.out], by rw [HW.out]; exact h9, HG9.out⟩
  subst h4
  have t4 : ((4 : Int) != 4) = false := rfl
  obtain ⟨os, hos⟩ : ∃ os, 1 - sc = os := ⟨_, rfl⟩
  have b1 : 0 ≤ os := by omega
  have b2 : os ≤ 1 := by omega
  obtain ⟨r2, hr2⟩ : ∃ r2, eraseF f1 (1 - sc) = r2 := ⟨_, rfl⟩
  have HR2 := Lib.hid hr2
  rw [hos] at hr2
  have HR2o := Lib.hid hr2
  clear hr2
  repeat (first | refine kw_seq ?_ | refine kw_region ?_ | refine kl_nil ?_ | refine kq_then ?_ | refine kw_iff rfl ?_ | refine kw_skip ?_ | (first | refine kl_move rfl rfl (.inl rfl) rfl rfl ?_ | refine kl_move rfl rfl (.inr rfl) rfl rfl ?_ | refine kl_const rfl rfl (.inl rfl) rfl ?_ | refine kl_const rfl rfl (.inr rfl) rfl ?_) | ((first | refine kl_step rfl rfl rfl fun K hK => ?_ | refine kl_step0 rfl rfl rfl fun K hK => ?_); go_simp; (try go_bits); (first | refine hK _ _ ?_ | refine hK _ ?_); clear hK K))
  refine kl_call rfl rfl rfl Try.func43 rfl (by kernel_rfl) rfl ?_
  refine Calls.mono (refErase_any Q g hQ f1 os w9 h9) ?_
  rintro e w10 ⟨rfl, h10, hg10⟩
  refine ⟨_, rfl, ?_⟩
  rw [HR2o.out] at h10 ⊢
  have HG10 := Lib.hid (grown_trans HG9.out hg10)
  have HB10 := Lib.hid (HB9.out.grownKeep0 hg10 HAW.out)
  clear h9 hg10 HB9 HG9
  obtain ⟨e2, f2⟩ := r2
  dsimp only at h10 ⊢
  by_cases h0 : e2 = 0
  case neg =>
    have t5 : (e2 != 0) = true := bne_iff_ne.2 h0
    have HW := Lib.hid (HM.out.trans (write_2 HR1.out rfl HR2.out h0))
    clear h0
    repeat (first | refine kw_seq ?_ | refine kw_block ?_ | refine kw_skip ?_ | refine kw_region ?_ | refine kl_nil ?_ | refine kq_then ?_ | refine kq_block ?_ | refine kw_exit ?_ | refine kq_then_exit ?_ | refine kq_block_here rfl ?_ | refine kq_block_far rfl ?_ | refine kq_again_exit ?_ | refine kw_ret ?_ | refine kq_then_ret ?_ | refine kq_block_ret ?_ | refine kq_again_ret ?_ | refine kw_ift rfl ?_ | refine kw_iff rfl ?_ | refine kl_ung rfl rfl ?_ | refine kl_skipg rfl rfl rfl rfl ?_ | refine kl_skipg0 rfl rfl rfl ?_ | (first | refine kl_move rfl rfl (.inl rfl) rfl rfl ?_ | refine kl_move rfl rfl (.inr rfl) rfl rfl ?_ | refine kl_const rfl rfl (.inl rfl) rfl ?_ | refine kl_const rfl rfl (.inr rfl) rfl ?_) | ((first | refine kl_step rfl rfl rfl fun K hK => ?_ | refine kl_step0 rfl rfl rfl fun K hK => ?_); go_simp; (try go_bits); (first | refine hK _ _ ?_ | refine hK _ ?_); clear hK K))
    exact kq_ret1 rfl rfl ⟨by rw [HW.out], by rw [HW.out]; exact h10, HG10.out⟩
  subst h0
  have t5 : ((0 : Int) != 0) = false := rfl
  obtain ⟨r3, hr3⟩ : ∃ r3, appendP f2 (1 - sc) b = r3 := ⟨_, rfl⟩
  have HR3 := Lib.hid hr3
  rw [hos] at hr3
  have HR3o := Lib.hid hr3
  clear hr3
  repeat (first | refine kw_seq ?_ | refine kw_region ?_ | refine kl_nil ?_ | refine kq_then ?_ | refine kw_iff rfl ?_ | refine kw_skip ?_ | (first | refine kl_move rfl rfl (.inl rfl) rfl rfl ?_ | refine kl_move rfl rfl (.inr rfl) rfl rfl ?_ | refine kl_const rfl rfl (.inl rfl) rfl ?_ | refine kl_const rfl rfl (.inr rfl) rfl ?_) | ((first | refine kl_step rfl rfl rfl fun K hK => ?_ | refine kl_step0 rfl rfl rfl fun K hK => ?_); go_simp; (try go_bits); (first | refine hK _ _ ?_ | refine hK _ ?_); clear hK K))
  refine kl_call rfl rfl rfl Try.func44 rfl (by kernel_rfl) rfl ?_
  refine Calls.mono (appendR_any Q g hQ f2 os A8 48 c8 b w10 h10 (by omega) HB10.out hn8 hc8) ?_
  rintro e w11 ⟨rfl, h11, hg11⟩
  refine ⟨_, rfl, ?_⟩
  rw [HR3o.out] at h11 ⊢
  have HW := Lib.hid (HM.out.trans (write_3 HR1.out rfl HR2.out rfl HR3.out))
  have HG11 := Lib.hid (grown_trans HG10.out hg11)
  clear hg11
  repeat (first | refine kw_seq ?_ | refine kw_block ?_ | refine kw_skip ?_ | refine kw_region ?_ | refine kl_nil ?_ | refine kq_then ?_ | refine kq_block ?_ | refine kw_exit ?_ | refine kq_then_exit ?_ | refine kq_block_here rfl ?_ | refine kq_block_far rfl ?_ | refine kq_again_exit ?_ | refine kw_ret ?_ | refine kq_then_ret ?_ | refine kq_block_ret ?_ | refine kq_again_ret ?_ | refine kw_ift rfl ?_ | refine kw_iff rfl ?_ | refine kl_ung rfl rfl ?_ | refine kl_skipg rfl rfl rfl rfl ?_ | refine kl_skipg0 rfl rfl rfl ?_ | (first | refine kl_move rfl rfl (.inl rfl) rfl rfl ?_ | refine kl_move rfl rfl (.inr rfl) rfl rfl ?_ | refine kl_const rfl rfl (.inl rfl) rfl ?_ | refine kl_const rfl rfl (.inr rfl) rfl ?_) | ((first | refine kl_step rfl rfl rfl fun K hK => ?_ | refine kl_step0 rfl rfl rfl fun K hK => ?_); go_simp; (try go_bits); (first | refine hK _ _ ?_ | refine hK _ ?_); clear hK K))
  exact kq_ret1 rfl rfl ⟨by rw [HW.out], by rw [HW.out]; exact h11, HG11.out⟩
end Go.Proofs.Ytkncomkncfcecaa
