/- The newest checkpoint: the code's and the document's. -/
import Derived.Test.YtcpifcdndhhmgaaRetPar
import Derived.Test.YtcpifcdndhhmgaaTakSmall
import Derived.Test.YtcpifcdndhhmgaaRecLoad
import Derived.Test.YtcpifcdndhhmgaaPsT
set_option linter.unusedVariables false
set_option linter.unusedSimpArgs false
namespace Go.Proofs.Ytcpifcdndhhmgaa
open Go.RowKit
attribute [local go_sem] ev_tmp ev_const ev_func ev_global lk_hit lk_miss uponK_value uponK_skip look_tmp look_const look_global look_func valP_value
theorem loadF_short (b : List UInt8) : ∀ k p, ∀ x ∈ (loadF b k p).1, x.length ≤ 65535
  | 0, _, x, hx => by simp [loadF] at hx
  | k + 1, p, x, hx => by
    simp only [loadF] at hx
    split at hx
    · simp at hx
    · split at hx
      · simp at hx
      · split at hx
        · rcases List.mem_cons.1 hx with rfl | hx
          · exact opened_short _
          · exact loadF_short b k _ x hx
        · simp at hx
theorem loadR_short (b : List UInt8) : ∀ x ∈ (loadR b).1, x.length ≤ 65535 := fun x hx => by
  unfold loadR at hx
  split at hx
  · simp at hx
  · exact loadF_short _ _ _ x hx
theorem stepN_take {s : Int} {st : NSt} {b : List UInt8} {r : Int × List KepS × Int} (hp : parseK b = r) (h : takesN s st r) : stepN s st b = (r.1, r.2.1, s) := by
  subst hp; unfold stepN; rw [if_pos h]
theorem stepN_skip {s : Int} {st : NSt} {b : List UInt8} {r : Int × List KepS × Int} (hp : parseK b = r) (h : ¬ takesN s st r) : stepN s st b = st := by
  subst hp; unfold stepN; rw [if_neg h]
def stK (f : FlashSt) (z : Int) : Nat → NSt
  | 0 => (0, [], z)
  | 1 => secN f 4 (0, [], z)
  | _ => secN f 5 (secN f 4 (0, [], z))
theorem stK_next (f : FlashSt) (z : Int) (j : Nat) (hj : j < 2) : secN f ((4 + j : Nat) : Int) (stK f z j) = stK f z (j + 1) := by
  rcases (by omega : j = 0 ∨ j = 1) with rfl | rfl <;> rfl
theorem fold_snoc {s : Int} {st : NSt} {l : List (List UInt8)} {b : List UInt8} : (l ++ [b]).foldl (stepN s) st = stepN s (l.foldl (stepN s) st) b := by rw [List.foldl_append]; rfl
def NewP (z : Int) (f : FlashSt) (w : World) (e : Ending) (w' : World) : Prop :=
  ∃ A n c, e = .returned (.tuple #[.int .i64 (stK f z 2).1, .slice A n c, .int .i64 (stK f z 2).2.2]) ∧ KeS w' A n (stK f z 2).2.1 ∧ TyK w' A ∧ n ≤ c ∧ c ≤ 9223372036854775807 ∧ Below w.heap.size w w'
set_option maxRecDepth 100000 in
set_option maxHeartbeats 8000000 in
theorem loadN_any (Q : Nat → Prop) (g : Nat) (f : FlashSt) (w : World) (h : FS Q w g f) : Calls Try.prog 37 #[.pointer (some ⟨g, 0, none⟩)] w (NewP (4) f w) := by
  refine calls_kw Try.func37 rfl Try.ntmps37 rfl [(0, .pointer (some ⟨g, 0, none⟩))] rfl ?_
  repeat (first | refine kw_seq ?_ | refine kw_region ?_ | refine kl_nil ?_ | refine kq_then ?_ | (first | refine kl_move rfl rfl (.inl rfl) rfl rfl ?_ | refine kl_move rfl rfl (.inr rfl) rfl rfl ?_ | refine kl_const rfl rfl (.inl rfl) rfl ?_ | refine kl_const rfl rfl (.inr rfl) rfl ?_))
  refine KW.less [0, 2, 3, 4, 5] ?_
  simp only [nrm, lk, Nat.reduceBEq, cond_true, cond_false]
  refine kw_block ?_
  refine kw_loop (fun mm L W => ∃ j s q0 k0 s0 A n c, j ≤ 2 ∧ mm = 2 - j ∧ 4 + j = s ∧ Hid (stK f (4) j = (q0, k0, s0)) ∧ Hid (KeS W A n k0 ∧ TyK W A ∧ n ≤ c ∧ c ≤ 9223372036854775807) ∧ Hid (Below w.heap.size w W) ∧ L = [(0, .pointer (some ⟨g, 0, none⟩)), (2, .int .i64 q0), (3, .slice A n c), (4, .int .i64 s0), (5, .int .i64 (s : Int))]) ⟨0, 4, 0, [], 4, none, 0, 0, by omega, rfl, rfl, rfl, ⟨KeS.nil _ _, TyK.nil _, by omega, by omega⟩, Below.refl _ _, rfl⟩ ?_
  rintro mm L W ⟨j, s, q0, k0, s0, A, n, c, hj, rfl, hjs, hst, hM, hb, rfl⟩
  by_cases hlt : j < 2
  case neg =>
    obtain rfl : j = 2 := by omega
    have t1 : decide ((s : Int) < 6) = false := by rw [decide_eq_false_iff_not]; omega
    have t1n : decide (s < 6) = false := decide_eq_false (by omega)
    clear hlt hj hjs
    repeat (first | refine kw_seq ?_ | refine kw_block ?_ | refine kw_skip ?_ | refine kw_region ?_ | refine kl_nil ?_ | refine kq_then ?_ | refine kq_block ?_ | refine kw_exit ?_ | refine kq_then_exit ?_ | refine kq_block_here rfl ?_ | refine kq_block_far rfl ?_ | refine kq_again_exit ?_ | refine kw_ret ?_ | refine kq_then_ret ?_ | refine kq_block_ret ?_ | refine kq_again_ret ?_ | refine kw_ift rfl ?_ | refine kw_iff rfl ?_ | refine kl_ung rfl rfl ?_ | refine kl_skipg rfl rfl rfl rfl ?_ | refine kl_skipg0 rfl rfl rfl ?_ | (first | refine kl_move rfl rfl (.inl rfl) rfl rfl ?_ | refine kl_move rfl rfl (.inr rfl) rfl rfl ?_ | refine kl_const rfl rfl (.inl rfl) rfl ?_ | refine kl_const rfl rfl (.inr rfl) rfl ?_) | ((first | refine kl_step rfl rfl rfl fun K hK => ?_ | refine kl_step0 rfl rfl rfl fun K hK => ?_); go_simp; (try go_bits); (first | refine hK _ _ ?_ | refine hK _ ?_); clear hK K))
    refine kq_ret3 rfl rfl rfl rfl ⟨A, n, c, ?_, ?_, hM.out.2.1, hM.out.2.2.1, hM.out.2.2.2, hb.out⟩
    · rw [hst.out]
    · rw [hst.out]; exact hM.out.1
  have t1 : decide ((s : Int) < 6) = true := by rw [decide_eq_true_eq]; omega
  have t1n : decide (s < 6) = true := decide_eq_true (by omega)
  obtain ⟨s1, hs1⟩ : ∃ s1, s + 1 = s1 := ⟨_, rfl⟩
  have k1 : (s : Int) + 1 = (s1 : Int) := by omega
  have k2 : (0 : Int) ≤ s1 := by omega
  have k3 : (s1 : Int) ≤ 64 := by omega
  have k4 : (0 : Int) ≤ s := by omega
  have HSI : Hid (-9223372036854775808 ≤ (s : Int) ∧ (s : Int) ≤ 9223372036854775807) := by show _ ∧ _; omega
  have HI := Lib.hid (And.intro hs1 (And.intro hlt hjs))
  clear hs1 hlt hjs hj
  repeat (first | refine kw_seq ?_ | refine kw_block ?_ | refine kw_region ?_ | refine kl_nil ?_ | refine kq_then ?_ | refine kw_ift rfl ?_ | refine kw_skip ?_ | (first | refine kl_move rfl rfl (.inl rfl) rfl rfl ?_ | refine kl_move rfl rfl (.inr rfl) rfl rfl ?_ | refine kl_const rfl rfl (.inl rfl) rfl ?_ | refine kl_const rfl rfl (.inr rfl) rfl ?_) | ((first | refine kl_step rfl rfl rfl fun K hK => ?_ | refine kl_step0 rfl rfl rfl fun K hK => ?_); go_simp; (try go_bits); (first | refine hK _ _ ?_ | refine hK _ ?_); clear hK K))
  refine kl_call rfl rfl rfl Try.func55 rfl (by kernel_rfl) rfl ?_
  refine Calls.mono (load_anyT Q g f (s : Int) W (h.below hb.out)) ?_
  rintro e w3 ⟨B0, A2, n2, c2, xs2, rfl, ho2, hy2, hn2, hc2, hb3⟩
  refine ⟨_, rfl, ?_⟩
  have HM3 : Hid (KeS w3 A n k0 ∧ TyK w3 A ∧ n ≤ c ∧ c ≤ 9223372036854775807) := ⟨hM.out.1.below hb3, hM.out.2.1.below hb3, hM.out.2.2.1, hM.out.2.2.2⟩
  have HB3 := Lib.hid (below_then hb.out hb3 hb.out.size)
  clear hM hb hb3 t1 t1n
  obtain ⟨R, hR⟩ : ∃ R, (loadR (readF f (s : Int))).1 = R := ⟨_, rfl⟩
  have hshort := loadR_short (readF f (s : Int))
  have hcnt := loadR_cnt (readF f (s : Int))
  rw [hR] at hy2 hshort hcnt
  have hp2 : PsT w3 A2 n2 R := ⟨B0, c2, xs2, ho2, hy2⟩
  clear ho2 hy2
  have HR : Hid (R.foldl (stepN (s : Int)) (q0, k0, s0) = stK f (4) (j + 1)) := by
    show _ = _
    have := stK_next f (4) j HI.out.2.1
    rw [HI.out.2.2, hst.out] at this
    rw [← this, ← hR]; rfl
  have HS := Lib.hid hshort
  have hl2 := hp2.ps.len
  have hn64 : n2 ≤ 64 := by omega
  have HP2 := Lib.hid hp2
  clear hR hshort hcnt hp2 hst
  repeat (first | refine kw_seq ?_ | refine kw_region ?_ | refine kl_nil ?_ | refine kq_then ?_ | (first | refine kl_move rfl rfl (.inl rfl) rfl rfl ?_ | refine kl_move rfl rfl (.inr rfl) rfl rfl ?_ | refine kl_const rfl rfl (.inl rfl) rfl ?_ | refine kl_const rfl rfl (.inr rfl) rfl ?_) | ((first | refine kl_step rfl rfl rfl fun K hK => ?_ | refine kl_step0 rfl rfl rfl fun K hK => ?_); go_simp; (try go_bits); (first | refine hK _ _ ?_ | refine hK _ ?_); clear hK K))
  refine KW.less [0, 2, 3, 4, 5, 23, 24, 25] ?_
  simp only [nrm, lk, Nat.reduceBEq, cond_true, cond_false]
  refine kw_block ?_
  obtain ⟨st0, hst0⟩ : ∃ st0 : NSt, (q0, k0, s0) = st0 := ⟨_, rfl⟩
  rw [hst0] at HR
  have HS0 : Hid ((R.take 0).foldl (stepN (s : Int)) st0 = (q0, k0, s0)) := hst0.symm
  clear hst0
  refine kw_loop (fun mm L W3 => ∃ k q0 k0 s0 A n c, k ≤ n2 ∧ mm = n2 - k ∧ Hid ((R.take k).foldl (stepN (s : Int)) st0 = (q0, k0, s0)) ∧ Hid (KeS W3 A n k0 ∧ TyK W3 A ∧ n ≤ c ∧ c ≤ 9223372036854775807) ∧ Hid (Below w.heap.size w W3) ∧ Hid (PsT W3 A2 n2 R) ∧ L = [(0, .pointer (some ⟨g, 0, none⟩)), (2, .int .i64 q0), (3, .slice A n c), (4, .int .i64 s0), (5, .int .i64 (s : Int)), (23, .slice A2 n2 c2), (24, .int .i64 (n2 : Int)), (25, .int .i64 (k : Int))]) ⟨0, q0, k0, s0, A, n, c, by omega, rfl, HS0, HM3, HB3, HP2, rfl⟩ ?_
  clear HS0 HM3 HB3 HP2 q0 k0 s0 A n c
  rintro mm L W3 ⟨k, q0, k0, s0, A, n, c, hk, rfl, hst, hM, hb, hps, rfl⟩
  by_cases hkn : k < n2
  case neg =>
    obtain rfl : k = n2 := by omega
    have t1 : decide ((k : Int) < (k : Int)) = false := by simp
    have t1n : decide (k < k) = false := by simp
    have HO4 : Hid (stK f (4) (j + 1) = (q0, k0, s0)) := by
      show _ = _
      rw [← HR.out, ← hst.out, List.take_of_length_le (by omega)]
    clear hkn hst
    repeat (first | refine kw_seq ?_ | refine kw_region ?_ | refine kl_nil ?_ | refine kq_then ?_ | refine kq_block ?_ | refine kw_ift rfl ?_ | refine kw_iff rfl ?_ | refine kw_exit ?_ | refine kq_then_exit ?_ | refine kq_again_exit ?_ | refine kq_block_here rfl ?_ | refine kw_skip ?_ | refine kl_ung rfl rfl ?_ | refine kl_skipg rfl rfl rfl rfl ?_ | (first | refine kl_move rfl rfl (.inl rfl) rfl rfl ?_ | refine kl_move rfl rfl (.inr rfl) rfl rfl ?_ | refine kl_const rfl rfl (.inl rfl) rfl ?_ | refine kl_const rfl rfl (.inr rfl) rfl ?_) | ((first | refine kl_step rfl rfl rfl fun K hK => ?_ | refine kl_step0 rfl rfl rfl fun K hK => ?_); go_simp; (try go_bits); (first | refine hK _ _ ?_ | refine hK _ ?_); clear hK K))
    refine kq_again (2 - (j + 1)) [0, 2, 3, 4, 5] (by have := HI.out; omega) ?_
    exact ⟨j + 1, s1, q0, k0, s0, A, n, c, by have := HI.out; omega, rfl, by have := HI.out; omega, HO4, hM, hb, rfl⟩
  have t1 : decide ((k : Int) < (n2 : Int)) = true := by rw [decide_eq_true_eq]; omega
  have t1n : decide (k < n2) = true := decide_eq_true hkn
  have u0 : (0 : Int) ≤ k := by omega
  have u1 : (k : Int) < n2 := by omega
  obtain ⟨nk, hnk⟩ : ∃ nk, k + 1 = nk := ⟨_, rfl⟩
  have i3 : (k : Int) + 1 = (nk : Int) := by omega
  have i4 : (0 : Int) ≤ nk := by omega
  have i5 : (nk : Int) ≤ 65 := by omega
  have HNK := Lib.hid (And.intro hnk hkn)
  obtain ⟨bA, oA, Bk, mk, ck, rk, rfl, hcell, hBk, hmk, hck, hx1, hx2⟩ := hps.out.ps.next hkn
  have hrk : rk.length ≤ 65535 := HS.out rk (List.mem_of_getElem? hx2.out)
  have hbl := hBk.len
  have hmk6 : Hid (mk ≤ 1099511627776) := by show _ ≤ _; omega
  have HBK := Lib.hid hBk
  have hstep : Hid ((R.take nk).foldl (stepN (s : Int)) st0 = stepN (s : Int) (q0, k0, s0) rk) := by
    show _ = _
    rw [← HNK.out.1, hx1.out, fold_snoc, hst.out]
  clear hnk hBk hst hx1 hx2 hrk hbl hkn hk
  repeat (first | refine kw_seq ?_ | refine kw_block ?_ | refine kw_region ?_ | refine kl_nil ?_ | refine kq_then ?_ | refine kw_ift rfl ?_ | refine kw_skip ?_ | (first | refine kl_move rfl rfl (.inl rfl) rfl rfl ?_ | refine kl_move rfl rfl (.inr rfl) rfl rfl ?_ | refine kl_const rfl rfl (.inl rfl) rfl ?_ | refine kl_const rfl rfl (.inr rfl) rfl ?_) | ((first | refine kl_step rfl rfl rfl fun K hK => ?_ | refine kl_step0 rfl rfl rfl fun K hK => ?_); go_simp; (try go_bits); (first | refine hK _ _ ?_ | refine hK _ ?_); clear hK K))
  refine kl_call rfl rfl rfl Try.func56 rfl (by kernel_rfl) rfl ?_
  refine Calls.mono (parseK_any Bk mk ck rk W3 HBK.out hmk6.out) ?_
  rintro e w5 ⟨A5, n5, c5, rfl, hk5, hy5, hn5, hc5, hb5⟩
  refine ⟨_, rfl, ?_⟩
  have HM5 : Hid (KeS w5 A n k0 ∧ TyK w5 A ∧ n ≤ c ∧ c ≤ 9223372036854775807) := ⟨hM.out.1.below hb5, hM.out.2.1.below hb5, hM.out.2.2.1, hM.out.2.2.2⟩
  have HB5 := Lib.hid (below_then hb.out hb5 hb.out.size)
  have HPS5 := Lib.hid (hps.out.below hb5)
  obtain ⟨⟨qr, kr, er⟩, hpr⟩ : ∃ r, parseK rk = r := ⟨_, rfl⟩
  rw [hpr] at hk5 ⊢
  dsimp only at hk5 ⊢
  have HPR := Lib.hid hpr
  have HM6 := Lib.hid (And.intro hk5 (And.intro hy5 (And.intro hn5 hc5)))
  clear hM hb hps hb5 hcell HBK hpr t1 t1n hk5 hy5 hn5 hc5 hmk hck
  by_cases d0 : er = 0
  case neg =>
    have q1 : (er == 0) = false := by rw [beq_eq_false_iff_ne]; exact d0
    have HF : Hid ((R.take nk).foldl (stepN (s : Int)) st0 = (q0, k0, s0)) := hstep.out.trans (stepN_skip HPR.out (fun h => d0 h.1))
    clear hstep
    repeat (first | refine kw_seq ?_ | refine kw_region ?_ | refine kl_nil ?_ | refine kq_then ?_ | refine kq_block ?_ | refine kw_ift rfl ?_ | refine kw_iff rfl ?_ | refine kw_exit ?_ | refine kq_then_exit ?_ | refine kq_again_exit ?_ | refine kq_block_here rfl ?_ | refine kw_skip ?_ | refine kl_ung rfl rfl ?_ | refine kl_skipg rfl rfl rfl rfl ?_ | (first | refine kl_move rfl rfl (.inl rfl) rfl rfl ?_ | refine kl_move rfl rfl (.inr rfl) rfl rfl ?_ | refine kl_const rfl rfl (.inl rfl) rfl ?_ | refine kl_const rfl rfl (.inr rfl) rfl ?_) | ((first | refine kl_step rfl rfl rfl fun K hK => ?_ | refine kl_step0 rfl rfl rfl fun K hK => ?_); go_simp; (try go_bits); (first | refine hK _ _ ?_ | refine hK _ ?_); clear hK K))
    refine kq_again (n2 - nk) [0, 2, 3, 4, 5, 23, 24, 25] (by have := HNK.out; omega) ?_
    exact ⟨nk, q0, k0, s0, A, n, c, by have := HNK.out; omega, rfl, HF, HM5, HB5, HPS5, rfl⟩
  have q1 : (er == 0) = true := by rw [d0]; rfl
  by_cases d1 : q0 < qr
  case pos =>
    have q2 : decide (q0 < qr) = true := decide_eq_true d1
    have HF : Hid ((R.take nk).foldl (stepN (s : Int)) st0 = (qr, kr, (s : Int))) := hstep.out.trans (stepN_take HPR.out (⟨d0, .inl d1⟩))
    clear hstep
    repeat (first | refine kw_seq ?_ | refine kw_region ?_ | refine kl_nil ?_ | refine kq_then ?_ | refine kq_block ?_ | refine kw_ift rfl ?_ | refine kw_iff rfl ?_ | refine kw_exit ?_ | refine kq_then_exit ?_ | refine kq_again_exit ?_ | refine kq_block_here rfl ?_ | refine kw_skip ?_ | refine kl_ung rfl rfl ?_ | refine kl_skipg rfl rfl rfl rfl ?_ | (first | refine kl_move rfl rfl (.inl rfl) rfl rfl ?_ | refine kl_move rfl rfl (.inr rfl) rfl rfl ?_ | refine kl_const rfl rfl (.inl rfl) rfl ?_ | refine kl_const rfl rfl (.inr rfl) rfl ?_) | ((first | refine kl_step rfl rfl rfl fun K hK => ?_ | refine kl_step0 rfl rfl rfl fun K hK => ?_); go_simp; (try go_bits); (first | refine hK _ _ ?_ | refine hK _ ?_); clear hK K))
    refine kq_again (n2 - nk) [0, 2, 3, 4, 5, 23, 24, 25] (by have := HNK.out; omega) ?_
    exact ⟨nk, qr, kr, (s : Int), A5, n5, c5, by have := HNK.out; omega, rfl, HF, HM6, HB5, HPS5, rfl⟩
  have q2 : decide (q0 < qr) = false := decide_eq_false d1
  by_cases d2 : qr = q0
  case neg =>
    have q3 : (qr == q0) = false := by rw [beq_eq_false_iff_ne]; exact d2
    have HF : Hid ((R.take nk).foldl (stepN (s : Int)) st0 = (q0, k0, s0)) := hstep.out.trans (stepN_skip HPR.out (fun h => h.2.elim d1 (fun h => d2 h.1)))
    clear hstep
    repeat (first | refine kw_seq ?_ | refine kw_region ?_ | refine kl_nil ?_ | refine kq_then ?_ | refine kq_block ?_ | refine kw_ift rfl ?_ | refine kw_iff rfl ?_ | refine kw_exit ?_ | refine kq_then_exit ?_ | refine kq_again_exit ?_ | refine kq_block_here rfl ?_ | refine kw_skip ?_ | refine kl_ung rfl rfl ?_ | refine kl_skipg rfl rfl rfl rfl ?_ | (first | refine kl_move rfl rfl (.inl rfl) rfl rfl ?_ | refine kl_move rfl rfl (.inr rfl) rfl rfl ?_ | refine kl_const rfl rfl (.inl rfl) rfl ?_ | refine kl_const rfl rfl (.inr rfl) rfl ?_) | ((first | refine kl_step rfl rfl rfl fun K hK => ?_ | refine kl_step0 rfl rfl rfl fun K hK => ?_); go_simp; (try go_bits); (first | refine hK _ _ ?_ | refine hK _ ?_); clear hK K))
    refine kq_again (n2 - nk) [0, 2, 3, 4, 5, 23, 24, 25] (by have := HNK.out; omega) ?_
    exact ⟨nk, q0, k0, s0, A, n, c, by have := HNK.out; omega, rfl, HF, HM5, HB5, HPS5, rfl⟩
  subst d2
  have q3 : (qr == qr) = true := by simp
  by_cases d3 : (s : Int) = s0
  case neg =>
    have q4 : ((s : Int) == s0) = false := by rw [beq_eq_false_iff_ne]; exact d3
    have q5 : (s0 == (s : Int)) = false := by rw [beq_eq_false_iff_ne]; exact fun h => d3 h.symm
    have HF : Hid ((R.take nk).foldl (stepN (s : Int)) st0 = (qr, k0, s0)) := hstep.out.trans (stepN_skip HPR.out (fun h => h.2.elim d1 (fun h => d3 h.2)))
    clear hstep
    repeat (first | refine kw_seq ?_ | refine kw_region ?_ | refine kl_nil ?_ | refine kq_then ?_ | refine kq_block ?_ | refine kw_ift rfl ?_ | refine kw_iff rfl ?_ | refine kw_exit ?_ | refine kq_then_exit ?_ | refine kq_again_exit ?_ | refine kq_block_here rfl ?_ | refine kw_skip ?_ | refine kl_ung rfl rfl ?_ | refine kl_skipg rfl rfl rfl rfl ?_ | (first | refine kl_move rfl rfl (.inl rfl) rfl rfl ?_ | refine kl_move rfl rfl (.inr rfl) rfl rfl ?_ | refine kl_const rfl rfl (.inl rfl) rfl ?_ | refine kl_const rfl rfl (.inr rfl) rfl ?_) | ((first | refine kl_step rfl rfl rfl fun K hK => ?_ | refine kl_step0 rfl rfl rfl fun K hK => ?_); go_simp; (try go_bits); (first | refine hK _ _ ?_ | refine hK _ ?_); clear hK K))
    refine kq_again (n2 - nk) [0, 2, 3, 4, 5, 23, 24, 25] (by have := HNK.out; omega) ?_
    exact ⟨nk, qr, k0, s0, A, n, c, by have := HNK.out; omega, rfl, HF, HM5, HB5, HPS5, rfl⟩
  subst d3
  have q4 : ((s : Int) == (s : Int)) = true := by simp
  have HF : Hid ((R.take nk).foldl (stepN (s : Int)) st0 = (qr, kr, (s : Int))) := hstep.out.trans (stepN_take HPR.out (⟨d0, .inr ⟨rfl, rfl⟩⟩))
  clear hstep
  repeat (first | refine kw_seq ?_ | refine kw_region ?_ | refine kl_nil ?_ | refine kq_then ?_ | refine kq_block ?_ | refine kw_ift rfl ?_ | refine kw_iff rfl ?_ | refine kw_exit ?_ | refine kq_then_exit ?_ | refine kq_again_exit ?_ | refine kq_block_here rfl ?_ | refine kw_skip ?_ | refine kl_ung rfl rfl ?_ | refine kl_skipg rfl rfl rfl rfl ?_ | (first | refine kl_move rfl rfl (.inl rfl) rfl rfl ?_ | refine kl_move rfl rfl (.inr rfl) rfl rfl ?_ | refine kl_const rfl rfl (.inl rfl) rfl ?_ | refine kl_const rfl rfl (.inr rfl) rfl ?_) | ((first | refine kl_step rfl rfl rfl fun K hK => ?_ | refine kl_step0 rfl rfl rfl fun K hK => ?_); go_simp; (try go_bits); (first | refine hK _ _ ?_ | refine hK _ ?_); clear hK K))
  refine kq_again (n2 - nk) [0, 2, 3, 4, 5, 23, 24, 25] (by have := HNK.out; omega) ?_
  exact ⟨nk, qr, kr, (s : Int), A5, n5, c5, by have := HNK.out; omega, rfl, HF, HM6, HB5, HPS5, rfl⟩
theorem stK_code (f : FlashSt) : stK f 4 2 = newK f := rfl
/-- what Load tells, both ways -/
def LoadKP (f : FlashSt) (w : World) (e : Ending) (w' : World) : Prop :=
  ∃ A n c, e = .returned (.tuple #[.int .i64 (newK f).1, .slice A n c]) ∧ KeS w' A n (newK f).2.1 ∧ TyK w' A ∧ n ≤ c ∧ c ≤ 9223372036854775807 ∧ Below w.heap.size w w'
set_option maxRecDepth 100000 in
set_option maxHeartbeats 1000000 in
theorem loadK_any (Q : Nat → Prop) (g : Nat) (f : FlashSt) (w : World) (h : FS Q w g f) : Calls Try.prog 12 #[.pointer (some ⟨g, 0, none⟩)] w (LoadKP f w) := by
  refine calls_kw Try.func12 rfl Try.ntmps12 rfl [(0, .pointer (some ⟨g, 0, none⟩))] rfl ?_
  repeat (first | refine kw_seq ?_ | refine kw_region ?_ | refine kl_nil ?_ | refine kq_then ?_ | (first | refine kl_move rfl rfl (.inl rfl) rfl rfl ?_ | refine kl_move rfl rfl (.inr rfl) rfl rfl ?_ | refine kl_const rfl rfl (.inl rfl) rfl ?_ | refine kl_const rfl rfl (.inr rfl) rfl ?_))
  refine kl_call rfl rfl rfl Try.func37 rfl (by kernel_rfl) rfl ?_
  refine Calls.mono (loadN_any Q g f w h) ?_
  rintro e w1 ⟨A, n, c, rfl, h1, h2, h3, h4, h5⟩
  refine ⟨_, rfl, ?_⟩
  rw [stK_code] at h1 ⊢
  obtain ⟨q, hq⟩ : ∃ q, (newK f).1 = q := ⟨_, rfl⟩
  have HQ := Lib.hid hq
  rw [hq]
  clear hq
  generalize (newK f).2.2 = z
  have H1 := Lib.hid h1
  clear h1
  repeat (first | refine kw_seq ?_ | refine kw_block ?_ | refine kw_skip ?_ | refine kw_region ?_ | refine kl_nil ?_ | refine kq_then ?_ | refine kq_block ?_ | refine kw_exit ?_ | refine kq_then_exit ?_ | refine kq_block_here rfl ?_ | refine kq_block_far rfl ?_ | refine kq_again_exit ?_ | refine kw_ret ?_ | refine kq_then_ret ?_ | refine kq_block_ret ?_ | refine kq_again_ret ?_ | refine kw_ift rfl ?_ | refine kw_iff rfl ?_ | refine kl_ung rfl rfl ?_ | refine kl_skipg rfl rfl rfl rfl ?_ | refine kl_skipg0 rfl rfl rfl ?_ | (first | refine kl_move rfl rfl (.inl rfl) rfl rfl ?_ | refine kl_move rfl rfl (.inr rfl) rfl rfl ?_ | refine kl_const rfl rfl (.inl rfl) rfl ?_ | refine kl_const rfl rfl (.inr rfl) rfl ?_) | ((first | refine kl_step rfl rfl rfl fun K hK => ?_ | refine kl_step0 rfl rfl rfl fun K hK => ?_); go_simp; (try go_bits); (first | refine hK _ _ ?_ | refine hK _ ?_); clear hK K))
  refine kq_ret2 rfl rfl rfl ⟨A, n, c, ?_, H1.out, h2, h3, h4, h5⟩
  rw [HQ.out]
end Go.Proofs.Ytcpifcdndhhmgaa
