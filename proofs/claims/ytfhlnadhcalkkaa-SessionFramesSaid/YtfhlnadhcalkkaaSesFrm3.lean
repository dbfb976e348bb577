/- SessionFrames: the rows. SessionFrames: bytes that are changed. -/
import Derived.Test.YtfhlnadhcalkkaaSesFrm1
namespace Go.Proofs.Ytfhlnadhcalkkaa
open Go.RowKit
attribute [local go_sem] ev_tmp ev_const ev_func ev_global lk_hit lk_miss uponK_value uponK_skip look_tmp look_const look_global look_func valP_value
set_option maxRecDepth 100000 in
set_option maxHeartbeats 1000000 in
theorem frames_row {w wr : World} {g6 g17 k i m c : Nat} {A : Option Addr} {V1 V2 V4 : Value} {z : Int} {v : Bool} {F : Frm} {D : Value} {x : List UInt8} {Q : Exit → Act → World → Prop} (hk : k ≤ 1) (hi : i < 4) (hL : Lay w wr [(g6, (frmV F D).toArray, 29)]) (hM : FrmM wr F D) (hx : wr.cell? ⟨g17, i, none⟩ = some (.slice A m c)) (hB : Bs wr A m x) (hm : m ≤ 61000) (hmc : m ≤ c) (hc : c ≤ 9223372036854775807)
  (hp : k = 1 → i = 0 → parseF (rowS v x) = (nf F, 0))
  (hQ : ∀ w', Below wr.heap.size wr w' → KQ Q .normal 177 [(1, V1), (2, V2), (3, .int .i64 z), (4, V4), (5, .bool v), (6, .pointer (some ⟨g6, 0, none⟩)), (13, .int .i64 (k : Int)), (17, .slice (some ⟨g17, 0, none⟩) 4 4), (18, .int .i64 (i : Int))] w') :
    KW Try.prog (blockOf Try.f4 5) Q 177 [(1, V1), (2, V2), (3, .int .i64 z), (4, V4), (5, .bool v), (6, .pointer (some ⟨g6, 0, none⟩)), (13, .int .i64 (k : Int)), (17, .slice (some ⟨g17, 0, none⟩) 4 4), (18, .int .i64 (i : Int))] wr := by
  conv => arg 2; whnf
  refine kw_block ?_
  have HQ := Lib.hid hQ
  have HPP := Lib.hid hp
  have HM := Lib.hid hM
  have HL := Lib.hid hL
  have i0 : (0 : Int) ≤ i := by omega
  have i1 : (i : Int) < 4 := by omega
  clear hQ hp hM hL
  repeat (first | refine kw_seq ?_ | refine kw_region ?_ | refine kl_nil ?_ | refine kq_then ?_ | (first | refine kl_move rfl rfl (.inl rfl) rfl rfl ?_ | refine kl_move rfl rfl (.inr rfl) rfl rfl ?_ | refine kl_const rfl rfl (.inl rfl) rfl ?_ | refine kl_const rfl rfl (.inr rfl) rfl ?_) | ((first | refine kl_step rfl rfl rfl fun K hK => ?_ | refine kl_step0 rfl rfl rfl fun K hK => ?_); go_simp; (try go_bits); (first | refine hK _ _ ?_ | refine hK _ ?_); clear hK K))
  clear hx i0 i1
  cases v
  · refine kw_iff rfl ?_
    refine kw_skip ?_
    refine kq_then ?_
    refine KW.less [19, 1, 2, 3, 4, 5, 6, 13, 17, 18] ?_
    simp only [nrm, lk, Nat.reduceBEq, cond_true, cond_false]
    exact frames_row2 hk hi HL.out HM.out hB (by omega) hmc hc HPP.out fun w' hb => kq_block (HQ.out w' hb)
  · refine kw_ift rfl ?_
    refine kw_region ?_
    repeat (first | (first | refine kl_move rfl rfl (.inl rfl) rfl rfl ?_ | refine kl_move rfl rfl (.inr rfl) rfl rfl ?_ | refine kl_const rfl rfl (.inl rfl) rfl ?_ | refine kl_const rfl rfl (.inr rfl) rfl ?_) | ((first | refine kl_step rfl rfl rfl fun K hK => ?_ | refine kl_step0 rfl rfl rfl fun K hK => ?_); go_simp; (try go_bits); (first | refine hK _ _ ?_ | refine hK _ ?_); clear hK K))
    refine kl_call rfl rfl rfl Try.func26 rfl (by kernel_rfl) rfl ?_
    refine Calls.mono (refSeal_any A m c x wr hB (by omega) hmc hc) ?_
    rintro e w2 ⟨vz, rfl, hwn, hb⟩
    have hlx := hB.len
    obtain ⟨A2, c2, rfl, hB2, hc2, hc2'⟩ := own_B hwn
    refine ⟨_, rfl, ?_⟩
    repeat (first | (first | refine kl_move rfl rfl (.inl rfl) rfl rfl ?_ | refine kl_move rfl rfl (.inr rfl) rfl rfl ?_ | refine kl_const rfl rfl (.inl rfl) rfl ?_ | refine kl_const rfl rfl (.inr rfl) rfl ?_) | ((first | refine kl_step rfl rfl rfl fun K hK => ?_ | refine kl_step0 rfl rfl rfl fun K hK => ?_); go_simp; (try go_bits); (first | refine hK _ _ ?_ | refine hK _ ?_); clear hK K))
    refine kl_nil ?_
    refine kq_then ?_
    refine KW.less [19, 1, 2, 3, 4, 5, 6, 13, 17, 18] ?_
    simp only [nrm, lk, Nat.reduceBEq, cond_true, cond_false]
    exact frames_row2 hk hi (HL.out.next hb) (HM.out.keep (.of_below hb)) hB2 (by omega) hc2 hc2' HPP.out fun w' hb' => kq_block (HQ.out w' (below_two hb hb'))
set_option maxRecDepth 100000 in
set_option maxHeartbeats 1000000 in
theorem frames_rows {w wr : World} {g6 g17 k : Nat} {V1 V2 V4 : Value} {z : Int} {v : Bool} {F : Frm} {D : Value} {xs : List (List UInt8)} {Q : Exit → Act → World → Prop} (hk : k ≤ 1) (hL : Lay w wr [(g6, (frmV F D).toArray, 29)]) (hM : FrmM wr F D) (hxs : Ps wr (some ⟨g17, 0, none⟩) 4 xs) (hlen : ∀ x ∈ xs, x.length ≤ 61000)
  (hp : k = 1 → ∀ x, xs[0]? = some x → parseF (rowS v x) = (nf F, 0))
  (hQ : ∀ w', Below wr.heap.size wr w' → KQ Q .normal 177 [(1, V1), (2, V2), (3, .int .i64 z), (4, V4), (5, .bool v), (6, .pointer (some ⟨g6, 0, none⟩)), (13, .int .i64 (k : Int))] w') :
    KW Try.prog (blockOf Try.f4 4) Q 177 [(1, V1), (2, V2), (3, .int .i64 z), (4, V4), (5, .bool v), (6, .pointer (some ⟨g6, 0, none⟩)), (13, .int .i64 (k : Int)), (17, .slice (some ⟨g17, 0, none⟩) 4 4), (18, .int .i64 0)] wr := by
  conv => arg 2; whnf
  refine kw_block ?_
  have HQ := Lib.hid hQ
  have HPP := Lib.hid hp
  have HM := Lib.hid hM
  have HLE := Lib.hid hlen
  have HXS := Lib.hid hxs
  clear hQ hp hM hlen hxs
  refine kw_loop (fun mm L w2 => ∃ i, i ≤ 4 ∧ mm = 4 - i ∧ Below wr.heap.size wr w2 ∧ L = [(1, V1), (2, V2), (3, .int .i64 z), (4, V4), (5, .bool v), (6, .pointer (some ⟨g6, 0, none⟩)), (13, .int .i64 (k : Int)), (17, .slice (some ⟨g17, 0, none⟩) 4 4), (18, .int .i64 (i : Int))]) ⟨0, by omega, rfl, Below.refl _ _, rfl⟩ ?_
  rintro mm L w2 ⟨i, hi, rfl, hb, rfl⟩
  by_cases hlt : i < 4
  · have t1 : decide ((i : Int) < 4) = true := by rw [decide_eq_true_eq]; omega
    have t1' : decide (i < 4) = true := decide_eq_true hlt
    repeat (first | refine kw_seq ?_ | refine kw_region ?_ | refine kl_nil ?_ | refine kq_then ?_ | refine kw_ift rfl ?_ | refine kw_skip ?_ | (first | refine kl_move rfl rfl (.inl rfl) rfl rfl ?_ | refine kl_move rfl rfl (.inr rfl) rfl rfl ?_ | refine kl_const rfl rfl (.inl rfl) rfl ?_ | refine kl_const rfl rfl (.inr rfl) rfl ?_) | ((first | refine kl_step rfl rfl rfl fun K hK => ?_ | refine kl_step0 rfl rfl rfl fun K hK => ?_); go_simp; (try go_bits); (first | refine hK _ _ ?_ | refine hK _ ?_); clear hK K))
    refine KW.less [1, 2, 3, 4, 5, 6, 13, 17, 18] ?_
    simp only [nrm, lk, Nat.reduceBEq, cond_true, cond_false]
    obtain ⟨b, o, B, m, c, e, hcell, hB, hmc, hc⟩ := (HXS.out.keep (.of_below hb)).at_ hlt
    injection e with e
    injection e with e1 e2
    subst e1; subst e2
    rw [Nat.zero_add] at hcell
    have hix : i < xs.length := by rw [HXS.out.len]; exact hlt
    refine frames_row hk hlt (hL.next hb) (HM.out.keep (.of_below hb)) hcell hB (by rw [← hB.len]; exact HLE.out _ (List.getElem_mem hix)) hmc hc (fun h1 h2 => ?_) fun w' hb' => ?_
    · subst h2
      exact HPP.out h1 _ (List.getElem?_eq_getElem hix)
    · clear t1 t1' hcell hB hmc hc
      refine kq_then ?_
      repeat (first | refine kw_seq ?_ | refine kw_region ?_ | refine kl_nil ?_ | (first | refine kl_move rfl rfl (.inl rfl) rfl rfl ?_ | refine kl_move rfl rfl (.inr rfl) rfl rfl ?_ | refine kl_const rfl rfl (.inl rfl) rfl ?_ | refine kl_const rfl rfl (.inr rfl) rfl ?_) | ((first | refine kl_step rfl rfl rfl fun K hK => ?_ | refine kl_step0 rfl rfl rfl fun K hK => ?_); go_simp; (try go_bits); (first | refine hK _ _ ?_ | refine hK _ ?_); clear hK K))
      refine kq_again (4 - (i + 1)) [1, 2, 3, 4, 5, 6, 13, 17, 18] (by omega) ?_
      simp only [nrm, lk, Nat.reduceBEq, cond_true, cond_false]
      exact ⟨i + 1, by omega, rfl, below_two hb hb', by simp only [Int.natCast_add]; rfl⟩
  · obtain rfl : i = 4 := by omega
    have t1 : decide (((4 : Nat) : Int) < 4) = false := by decide
    clear hlt
    repeat (first | refine kw_seq ?_ | refine kw_region ?_ | (first | refine kl_move rfl rfl (.inl rfl) rfl rfl ?_ | refine kl_move rfl rfl (.inr rfl) rfl rfl ?_ | refine kl_const rfl rfl (.inl rfl) rfl ?_ | refine kl_const rfl rfl (.inr rfl) rfl ?_) | ((first | refine kl_step rfl rfl rfl fun K hK => ?_ | refine kl_step0 rfl rfl rfl fun K hK => ?_); go_simp; (try go_bits); (first | refine hK _ _ ?_ | refine hK _ ?_); clear hK K))
    refine kl_nil ?_
    refine kq_then ?_
    refine kw_iff rfl ?_
    refine kw_exit ?_
    refine kq_then_exit ?_
    refine kq_again_exit ?_
    refine kq_block_here rfl ?_
    refine KQ.less [1, 2, 3, 4, 5, 6, 13] ?_
    simp only [nrm, lk, Nat.reduceBEq, cond_true, cond_false]
    exact HQ.out w2 hb
end Go.Proofs.Ytfhlnadhcalkkaa
namespace Go.Proofs.Ytfhlnadhcalkkaa
open Go.RowKit
attribute [local go_sem] ev_tmp ev_const ev_func ev_global lk_hit lk_miss uponK_value uponK_skip look_tmp look_const look_global look_func valP_value
theorem u8_add_b (q u : UInt8) : ((q.toNat : Int) + (u.toNat : Int)) % 256 = ((q + u).toNat : Int) := by
  rw [UInt8.toNat_add]; omega
theorem u8_add_c (q u : UInt8) : IntKind.u8.wrap ((q.toNat : Int) + (u.toNat : Int)) = ((q + u).toNat : Int) := u8_add_b q u
set_option maxRecDepth 100000 in
set_option maxHeartbeats 2000000 in
theorem frames_mut {w wr : World} {base n1 c1 n2 c2 N c15 k : Nat} {A1 A2 A15 : Option Addr} {V4 V6 V14 : Value} {z : Int} {v : Bool} {zs : List Int} {ys C0 : List UInt8} {Q : Exit → Act → World → Prop} (hA1 : Vs w A1 n1 (zs.map (Value.int .i64))) (hn1 : n1 ≤ c1) (hc1 : c1 ≤ 140737488351232) (hA2 : Bs w A2 n2 ys) (hn2 : n2 ≤ c2) (hc2 : c2 ≤ 140737488351232) (hbw : Below w.heap.size w wr) (hbase : w.heap.size ≤ base) (hown : wr.ownsRow base 5 1 (.slice A15 N c15) N (bv C0)) (hN : N ≤ 100000)
  (hQ : ∀ w' C', w'.ownsRow base 5 1 (.slice A15 N c15) N (bv C') → wr.grownBy w' (Value.slice A15 N c15).ownBlock → KQ Q .normal 177 [(1, .slice A1 n1 c1), (2, .slice A2 n2 c2), (3, .int .i64 z), (4, V4), (5, .bool v), (6, V6), (13, .int .i64 (k : Int)), (14, V14), (15, .slice A15 N c15)] w') :
    KW Try.prog (blockOf Try.f4 2) Q 177 [(1, .slice A1 n1 c1), (2, .slice A2 n2 c2), (3, .int .i64 z), (4, V4), (5, .bool v), (6, V6), (13, .int .i64 (k : Int)), (14, V14), (15, .slice A15 N c15), (16, .int .i64 0)] wr := by
  conv => arg 2; whnf
  refine kw_block ?_
  have HQ := Lib.hid hQ
  have HA1 := Lib.hid hA1
  have HA2 := Lib.hid hA2
  clear hQ hA1 hA2
  refine kw_loop (fun mm L w2 => ∃ i C, i ≤ 3 ∧ mm = 3 - i ∧ w2.ownsRow base 5 1 (.slice A15 N c15) N (bv C) ∧ wr.grownBy w2 (Value.slice A15 N c15).ownBlock ∧ L = [(1, .slice A1 n1 c1), (2, .slice A2 n2 c2), (3, .int .i64 z), (4, V4), (5, .bool v), (6, V6), (13, .int .i64 (k : Int)), (14, V14), (15, .slice A15 N c15), (16, .int .i64 (i : Int))]) ⟨0, C0, by omega, rfl, hown, grown_refl _ _, rfl⟩ ?_
  clear hown
  rintro mm L w2 ⟨i, C, hi, rfl, hown, hg, rfl⟩
  have i0 : (0 : Int) ≤ i := by omega
  by_cases h1 : i < n1
  case neg =>
    have t1 : decide ((i : Int) < (n1 : Int)) = false := by rw [decide_eq_false_iff_not]; omega
    have t1n : decide (i < n1) = false := by rw [decide_eq_false_iff_not]; omega
    repeat (first | refine kw_seq ?_ | refine kw_region ?_ | refine kl_ung rfl rfl ?_ | refine kl_skipg rfl rfl rfl rfl ?_ | (first | refine kl_move rfl rfl (.inl rfl) rfl rfl ?_ | refine kl_move rfl rfl (.inr rfl) rfl rfl ?_ | refine kl_const rfl rfl (.inl rfl) rfl ?_ | refine kl_const rfl rfl (.inr rfl) rfl ?_) | ((first | refine kl_step rfl rfl rfl fun K hK => ?_ | refine kl_step0 rfl rfl rfl fun K hK => ?_); go_simp; (try go_bits); (first | refine hK _ _ ?_ | refine hK _ ?_); clear hK K))
    refine kl_nil ?_
    refine kq_then ?_
    refine kw_iff rfl ?_
    refine kw_exit ?_
    refine kq_then_exit ?_
    refine kq_again_exit ?_
    refine kq_block_here rfl ?_
    refine KQ.less [1, 2, 3, 4, 5, 6, 13, 14, 15] ?_
    simp only [nrm, lk, Nat.reduceBEq, cond_true, cond_false]
    exact HQ.out w2 C hown hg
  have t1 : decide ((i : Int) < (n1 : Int)) = true := by rw [decide_eq_true_eq]; omega
  have t1n : decide (i < n1) = true := by rw [decide_eq_true_eq]; omega
  by_cases h2 : i < n2
  case neg =>
    have t2 : decide ((i : Int) < (n2 : Int)) = false := by rw [decide_eq_false_iff_not]; omega
    have t2n : decide (i < n2) = false := by rw [decide_eq_false_iff_not]; omega
    repeat (first | refine kw_seq ?_ | refine kw_region ?_ | refine kl_ung rfl rfl ?_ | refine kl_skipg rfl rfl rfl rfl ?_ | (first | refine kl_move rfl rfl (.inl rfl) rfl rfl ?_ | refine kl_move rfl rfl (.inr rfl) rfl rfl ?_ | refine kl_const rfl rfl (.inl rfl) rfl ?_ | refine kl_const rfl rfl (.inr rfl) rfl ?_) | ((first | refine kl_step rfl rfl rfl fun K hK => ?_ | refine kl_step0 rfl rfl rfl fun K hK => ?_); go_simp; (try go_bits); (first | refine hK _ _ ?_ | refine hK _ ?_); clear hK K))
    refine kl_nil ?_
    refine kq_then ?_
    refine kw_iff rfl ?_
    refine kw_exit ?_
    refine kq_then_exit ?_
    refine kq_again_exit ?_
    refine kq_block_here rfl ?_
    refine KQ.less [1, 2, 3, 4, 5, 6, 13, 14, 15] ?_
    simp only [nrm, lk, Nat.reduceBEq, cond_true, cond_false]
    exact HQ.out w2 C hown hg
  have t2 : decide ((i : Int) < (n2 : Int)) = true := by rw [decide_eq_true_eq]; omega
  have t2n : decide (i < n2) = true := by rw [decide_eq_true_eq]; omega
  by_cases h3 : i < 3
  case neg =>
    have t3 : decide ((i : Int) < 3) = false := by rw [decide_eq_false_iff_not]; omega
    have t3n : decide (i < 3) = false := by rw [decide_eq_false_iff_not]; omega
    repeat (first | refine kw_seq ?_ | refine kw_region ?_ | refine kl_ung rfl rfl ?_ | refine kl_skipg rfl rfl rfl rfl ?_ | (first | refine kl_move rfl rfl (.inl rfl) rfl rfl ?_ | refine kl_move rfl rfl (.inr rfl) rfl rfl ?_ | refine kl_const rfl rfl (.inl rfl) rfl ?_ | refine kl_const rfl rfl (.inr rfl) rfl ?_) | ((first | refine kl_step rfl rfl rfl fun K hK => ?_ | refine kl_step0 rfl rfl rfl fun K hK => ?_); go_simp; (try go_bits); (first | refine hK _ _ ?_ | refine hK _ ?_); clear hK K))
    refine kl_nil ?_
    refine kq_then ?_
    refine kw_iff rfl ?_
    refine kw_exit ?_
    refine kq_then_exit ?_
    refine kq_again_exit ?_
    refine kq_block_here rfl ?_
    refine KQ.less [1, 2, 3, 4, 5, 6, 13, 14, 15] ?_
    simp only [nrm, lk, Nat.reduceBEq, cond_true, cond_false]
    exact HQ.out w2 C hown hg
  have t3 : decide ((i : Int) < 3) = true := by rw [decide_eq_true_eq]; omega
  have t3n : decide (i < 3) = true := by rw [decide_eq_true_eq]; omega
  by_cases h4 : 0 < N
  case neg =>
    have t4 : decide ((0 : Int) < (N : Int)) = false := by rw [decide_eq_false_iff_not]; omega
    have t4n : decide (0 < N) = false := by rw [decide_eq_false_iff_not]; omega
    repeat (first | refine kw_seq ?_ | refine kw_region ?_ | refine kl_ung rfl rfl ?_ | refine kl_skipg rfl rfl rfl rfl ?_ | (first | refine kl_move rfl rfl (.inl rfl) rfl rfl ?_ | refine kl_move rfl rfl (.inr rfl) rfl rfl ?_ | refine kl_const rfl rfl (.inl rfl) rfl ?_ | refine kl_const rfl rfl (.inr rfl) rfl ?_) | ((first | refine kl_step rfl rfl rfl fun K hK => ?_ | refine kl_step0 rfl rfl rfl fun K hK => ?_); go_simp; (try go_bits); (first | refine hK _ _ ?_ | refine hK _ ?_); clear hK K))
    refine kl_nil ?_
    refine kq_then ?_
    refine kw_iff rfl ?_
    refine kw_exit ?_
    refine kq_then_exit ?_
    refine kq_again_exit ?_
    refine kq_block_here rfl ?_
    refine KQ.less [1, 2, 3, 4, 5, 6, 13, 14, 15] ?_
    simp only [nrm, lk, Nat.reduceBEq, cond_true, cond_false]
    exact HQ.out w2 C hown hg
  have t4 : decide ((0 : Int) < (N : Int)) = true := by rw [decide_eq_true_eq]; omega
  have t4n : decide (0 < N) = true := by rw [decide_eq_true_eq]; omega
  obtain ⟨gx, cx, e15, d1, d2, d3, d4⟩ := own_form hown h4
  injection e15 with e1 e2 e3
  subst e1; subst e3
  have HOWN := Lib.hid hown
  have HG : Hid (wr.grownBy w2 (some gx)) := hg
  clear hown hg
  repeat (first | refine kw_seq ?_ | refine kw_region ?_ | refine kl_ung rfl rfl ?_ | refine kl_skipg rfl rfl rfl rfl ?_ | (first | refine kl_move rfl rfl (.inl rfl) rfl rfl ?_ | refine kl_move rfl rfl (.inr rfl) rfl rfl ?_ | refine kl_const rfl rfl (.inl rfl) rfl ?_ | refine kl_const rfl rfl (.inr rfl) rfl ?_) | ((first | refine kl_step rfl rfl rfl fun K hK => ?_ | refine kl_step0 rfl rfl rfl fun K hK => ?_); go_simp; (try go_bits); (first | refine hK _ _ ?_ | refine hK _ ?_); clear hK K))
  refine kl_nil ?_
  refine kq_then ?_
  refine kw_ift rfl ?_
  refine kw_skip ?_
  refine kq_then ?_
  clear t1 t1n t2 t2n t3 t3n t4 t4n
  refine KW.less [1, 2, 3, 4, 5, 6, 13, 14, 15, 16] ?_
  simp only [nrm, lk, Nat.reduceBEq, cond_true, cond_false]
  -- the cells that are read
  obtain ⟨ba, oa, ua, ea, hca, _, hua⟩ := Vs.next HA1.out h1
  obtain ⟨zi, hzi, rfl⟩ : ∃ zi, zs[i]? = some zi ∧ Value.int .i64 zi = ua := by have := hua.out; rw [List.getElem?_map] at this; cases hz : zs[i]? <;> rw [hz] at this <;> simp at this; exact ⟨_, rfl, this⟩
  obtain ⟨bb, ob, yb, eb, hcb, _, _⟩ := HA2.out.next h2
  subst ea; subst eb
  have hla := World.block_lt_of_cell? w _ hca
  have hlb := World.block_lt_of_cell? w _ hcb
  have keepc : ∀ (p : Addr) (u : Value), p.block < w.heap.size → w.cell? p = some u → ∀ W, w2.grownBy W (some gx) → W.cell? p = some u := fun p u hp hu W hW => by
    have h0 : wr.cell? p = some u := by rw [hbw.cell hp]; exact hu
    have hlr : p.block < wr.heap.size := Nat.lt_of_lt_of_le hp hbw.size
    have hne : some p.block ≠ some gx := fun e => by injection e with e; omega
    have h5 : w2.cell? p = some u := by rw [World.cell?_of_block (HG.out.block p.block hlr hne)]; exact h0
    rw [World.cell?_of_block (hW.block p.block (Nat.lt_of_lt_of_le hlr HG.out.size) hne)]; exact h5
  have ca := keepc ⟨ba, oa + i, none⟩ _ hla hca
  have cb := keepc ⟨bb, ob + i, none⟩ _ hlb hcb
  clear keepc hua hzi hca hcb
  have hw := within_lt zi N h4
  obtain ⟨j, hj⟩ : ∃ j, within zi N = j := ⟨_, rfl⟩
  rw [hj] at hw
  have HJ := Lib.hid hj
  have HCN : Hid (C.length = N) := Lib.hid (by have := HOWN.out.1; simpa [length_bv] using this)
  obtain ⟨x0, hx0⟩ : ∃ x0, C[j]? = some x0 := ⟨_, List.getElem?_eq_getElem (by rw [HCN.out]; exact hw)⟩
  have i1 : (i : Int) < n1 := by omega
  have i2 : (i : Int) < n2 := by omega
  have j0 : (0 : Int) ≤ j := by omega
  have j1 : (j : Int) < N := by omega
  have a1 := u8_add_b x0 yb
  have a2 := u8_add_c x0 yb
  obtain ⟨x1, hx1⟩ : ∃ x1, x0 + yb = x1 := ⟨_, rfl⟩
  rw [hx1] at a1 a2
  clear hx1 hj
  refine kw_seq ?_
  refine kw_block ?_
  refine kw_region_f (fun W => w2.grownBy W (some gx)) [true, true, true, true, true, true, true, false, true, false, true, true, true, true, true, true, false] (by kernel_rfl) (by kernel_rfl) (grown_drew w2 1 _) ?_
  have HGD : Hid (w2.grownBy w2.drew (some gx)) := Lib.hid (grown_drew w2 1 _)
  have HOD : Hid (w2.drew.ownsRow base 5 1 (.slice (some ⟨gx, 0, none⟩) N c15) N (bv C)) := Lib.hid (own_below HOWN.out (Below.refl _ w2).drew)
  have cc := own_cell HOD.out hx0
  have fz : w2.drew.frozen? ⟨gx, j, none⟩ = false := HOD.out.frozenAt j
  generalize w2.drew = w3 at *
  repeat (first | refine kf_nil ?_ | refine kf_ung rfl rfl ?_ | refine kf_skipg rfl rfl rfl rfl ?_ | (first | refine kf_move rfl rfl (.inl rfl) rfl rfl ?_ | refine kf_move rfl rfl (.inr rfl) rfl rfl ?_ | refine kf_const rfl rfl (.inl rfl) rfl ?_ | refine kf_const rfl rfl (.inr rfl) rfl ?_) | (refine kf_val rfl rfl rfl ?_; apply Exists.intro; refine And.intro (fun W hW N hN => ?_) ?_; · (go_simp; (try go_bits); exact hN)))
  refine kf_ch ?_
  refine kl_call rfl rfl rfl Try.func16 rfl (by kernel_rfl) rfl ?_
  refine Calls.mono (within_any zi N N w3 rfl h4 (by omega)) ?_
  rintro e _ ⟨rfl, rfl⟩
  rw [HJ.out]
  refine ⟨_, rfl, ?_⟩
  refine kl_nil ?_
  refine kq_f HGD.out ?_
  repeat (first | refine kf_nil ?_ | refine kf_ung rfl rfl ?_ | refine kf_skipg rfl rfl rfl rfl ?_ | (first | refine kf_move rfl rfl (.inl rfl) rfl rfl ?_ | refine kf_move rfl rfl (.inr rfl) rfl rfl ?_ | refine kf_const rfl rfl (.inl rfl) rfl ?_ | refine kf_const rfl rfl (.inr rfl) rfl ?_) | (refine kf_val rfl rfl rfl ?_; apply Exists.intro; refine And.intro (fun W hW N hN => ?_) ?_; · (go_simp; (try go_bits); exact hN)))
  refine kf_ch ?_
  ((first | refine kl_step rfl rfl rfl fun K hK => ?_ | refine kl_step0 rfl rfl rfl fun K hK => ?_); go_simp; (try go_bits); (first | refine hK _ _ ?_ | refine hK _ ?_); clear hK K)
  refine kl_nil ?_
  refine kq_f HGD.out ?_
  repeat (first | refine kf_nil ?_ | refine kf_ung rfl rfl ?_ | refine kf_skipg rfl rfl rfl rfl ?_ | (first | refine kf_move rfl rfl (.inl rfl) rfl rfl ?_ | refine kf_move rfl rfl (.inr rfl) rfl rfl ?_ | refine kf_const rfl rfl (.inl rfl) rfl ?_ | refine kf_const rfl rfl (.inr rfl) rfl ?_) | (refine kf_val rfl rfl rfl ?_; apply Exists.intro; refine And.intro (fun W hW N hN => ?_) ?_; · (go_simp; (try go_bits); exact hN)))
  refine kf_ch ?_
  ((first | refine kl_step rfl rfl rfl fun K hK => ?_ | refine kl_step0 rfl rfl rfl fun K hK => ?_); go_simp; (try go_bits); (first | refine hK _ _ ?_ | refine hK _ ?_); clear hK K)
  have HOS := own_set HOD.out j x1
  have HGS : w2.grownBy (w3.setCell ⟨gx, j, none⟩ (.int .u8 (x1.toNat : Int))) (some gx) := HGD.out.trans (grown_set w3 gx j _)
  refine kl_nil ?_
  refine kq_f HGS ?_
  refine kf_nil ?_
  refine kq_block ?_
  have HGW := HG.out.trans HGS
  generalize w3.setCell ⟨gx, j, none⟩ _ = w4 at HOS HGS HGW ⊢
  clear ca cb cc a1 a2 i1 i2 j0 j1 HGS
  refine kq_then ?_
  obtain ⟨ni, hni⟩ : ∃ ni, i + 1 = ni := ⟨_, rfl⟩
  have i3 : (i : Int) + 1 = (ni : Int) := by omega
  have i4 : IntKind.i64.wrap ((i : Int) + 1) = (ni : Int) := by rw [i3, IntWalk.i64_in _ (by omega)]
  have HNI := Lib.hid hni
  clear hni
  repeat (first | refine kw_seq ?_ | refine kw_region ?_ | refine kl_ung rfl rfl ?_ | refine kl_skipg rfl rfl rfl rfl ?_ | (first | refine kl_move rfl rfl (.inl rfl) rfl rfl ?_ | refine kl_move rfl rfl (.inr rfl) rfl rfl ?_ | refine kl_const rfl rfl (.inl rfl) rfl ?_ | refine kl_const rfl rfl (.inr rfl) rfl ?_) | ((first | refine kl_step rfl rfl rfl fun K hK => ?_ | refine kl_step0 rfl rfl rfl fun K hK => ?_); go_simp; (try go_bits); (first | refine hK _ _ ?_ | refine hK _ ?_); clear hK K))
  refine kl_nil ?_
  clear fz i3 i4
  have hni := HNI.out
  refine kq_again (3 - ni) [1, 2, 3, 4, 5, 6, 13, 14, 15, 16] (by omega) ?_
  exact ⟨ni, C.set j x1, by omega, rfl, HOS, HGW, rfl⟩
end Go.Proofs.Ytfhlnadhcalkkaa
