/- session: the reader's hash. -/
import Derived.Test.YtonjpjiphcbemaaSesFrmP
import Derived.Test.YtonjpjiphcbemaaRd
namespace Go.Proofs.Ytonjpjiphcbemaa
open Go.RowKit
attribute [local go_sem] ev_tmp ev_const ev_func ev_global lk_hit lk_miss uponK_value uponK_skip look_tmp look_const look_global look_func valP_value
theorem hashZ : (Try.prog.info? 27).bind (·.zero) = some (.agg (bv z32).toArray) := zeroB_of z32 (by kernel_rfl)
theorem hash_row (hs : List UInt8) (k : Nat) (x : UInt8) (hl : hs.length = k) (hk : k < 32) : (bv (hs ++ List.replicate (32 - k) 0)).set k (bval x) = bv ((hs ++ [x]) ++ List.replicate (32 - (k + 1)) 0) := by
  subst hl
  rw [bv_set', List.set_append_right _ _ (Nat.le_refl _), Nat.sub_self, show 32 - hs.length = (32 - (hs.length + 1)) + 1 by omega, List.replicate_succ, List.set_cons_zero, List.append_assoc]
  rfl
theorem hash_cell (hs : List UInt8) (k : Nat) (hl : hs.length = k) (hk : k < 32) : (bv (hs ++ List.replicate (32 - k) 0))[k]? = some (bval 0) := by
  subst hl
  unfold bv
  rw [List.getElem?_map, List.getElem?_append_right (Nat.le_refl _), Nat.sub_self, show 32 - hs.length = (32 - (hs.length + 1)) + 1 by omega, List.replicate_succ]
  rfl
def HashP (l : List UInt8) (e : Int) (g : Nat) (w : World) (r : Ending) (w' : World) : Prop := r = .returned (.agg (bv (hashN 32 ([], l, e)).1).toArray) ∧ RSt true w' g (hashN 32 ([], l, e)).2.1 (hashN 32 ([], l, e)).2.2 ∧ w.grownBy w' (some g)
set_option maxRecDepth 100000 in
set_option maxHeartbeats 1000000 in
theorem hash_any (g : Nat) (l : List UInt8) (e : Int) (w : World) (h : RSt true w g l e) :
    Calls Try.prog 53 #[.agg #[.pointer (some ⟨g, 0, none⟩)]] w (HashP l e g w) := by
  refine calls_kw Try.func53 rfl Try.ntmps53 rfl [(0, .agg #[.pointer (some ⟨g, 0, none⟩)])] rfl ?_
  refine kw_seq ?_
  refine kw_region ?_
  refine kl_boxR (Rd.start h) rfl rfl rfl rfl rfl ?_
  intro g1 w1 q1 hb1 hR
  clear h hb1
  refine kl_zeroR hR hashZ rfl rfl rfl rfl ?_
  intro g2 w2 q2 hb2 hR
  clear hb2
  repeat (first | refine kw_seq ?_ | refine kw_block ?_ | refine kw_skip ?_ | refine kw_region ?_ | refine kl_nil ?_ | refine kq_then ?_ | refine kq_block ?_ | refine kw_exit ?_ | refine kq_then_exit ?_ | refine kq_block_here rfl ?_ | refine kq_block_far rfl ?_ | refine kq_again_exit ?_ | refine kw_ret ?_ | refine kq_then_ret ?_ | refine kq_block_ret ?_ | refine kq_again_ret ?_ | refine kw_ift rfl ?_ | refine kw_iff rfl ?_ | refine kl_ung rfl rfl ?_ | refine kl_skipg rfl rfl rfl rfl ?_ | refine kl_skipg0 rfl rfl rfl ?_ | (first | refine kl_move rfl rfl (.inl rfl) rfl rfl ?_ | refine kl_move rfl rfl (.inr rfl) rfl rfl ?_ | refine kl_const rfl rfl (.inl rfl) rfl ?_ | refine kl_const rfl rfl (.inr rfl) rfl ?_) | ((first | refine kl_step rfl rfl rfl fun K hK => ?_ | refine kl_step0 rfl rfl rfl fun K hK => ?_); go_simp; (try go_bits); (first | refine hK _ _ ?_ | refine hK _ ?_); clear hK K))
  refine KW.less [1, 2, 4] ?_
  simp only [nrm, lk, Nat.reduceBEq, cond_true, cond_false]
  refine kw_loop (fun m L wr => ∃ k, k ≤ 32 ∧ m = 32 - k ∧ Hid (Rd true w wr [(g2, (bv ((hashN k ([], l, e)).1 ++ List.replicate (32 - k) 0)).toArray, 27), (g1, #[.pointer (some ⟨g, 0, none⟩)], 95)] g (hashN k ([], l, e)).2.1 (hashN k ([], l, e)).2.2) ∧
    L = [(1, .pointer (some ⟨g1, 0, none⟩)), (2, .pointer (some ⟨g2, 0, none⟩)), (4, .int .i64 (k : Int))]) ⟨0, by omega, rfl, (show Hid (Rd true w w2 [(g2, (bv z32).toArray, 27), (g1, #[.pointer (some ⟨g, 0, none⟩)], 95)] g l e) from hR), rfl⟩ ?_
  clear hR
  rintro m L wr ⟨k, hk, rfl, hR, rfl⟩
  have hlen := hashN_len k l e
  obtain ⟨hs, rl, re, hh⟩ : ∃ hs rl re, hashN k ([], l, e) = (hs, rl, re) := ⟨_, _, _, rfl⟩
  have HH := Lib.hid hh
  rw [hh] at hR hlen
  clear hh
  have hR := hR.out
  by_cases hlt : k < 32
  · have k0 : (0 : Int) ≤ k := by omega
    have k1 : (k : Int) < 32 := by omega
    have cg := hR.get (j := 0) (cs := [.pointer (some ⟨g, 0, none⟩)]) 1 rfl rfl
    have HL := Lib.hid hlen
    clear hlen
    repeat (first | refine kw_seq ?_ | refine kw_block ?_ | refine kw_skip ?_ | refine kw_region ?_ | refine kl_nil ?_ | refine kq_then ?_ | refine kq_block ?_ | refine kw_exit ?_ | refine kq_then_exit ?_ | refine kq_block_here rfl ?_ | refine kq_block_far rfl ?_ | refine kq_again_exit ?_ | refine kw_ret ?_ | refine kq_then_ret ?_ | refine kq_block_ret ?_ | refine kq_again_ret ?_ | refine kw_ift rfl ?_ | refine kw_iff rfl ?_ | refine kl_ung rfl rfl ?_ | refine kl_skipg rfl rfl rfl rfl ?_ | refine kl_skipg0 rfl rfl rfl ?_ | (first | refine kl_move rfl rfl (.inl rfl) rfl rfl ?_ | refine kl_move rfl rfl (.inr rfl) rfl rfl ?_ | refine kl_const rfl rfl (.inl rfl) rfl ?_ | refine kl_const rfl rfl (.inr rfl) rfl ?_) | ((first | refine kl_step rfl rfl rfl fun K hK => ?_ | refine kl_step0 rfl rfl rfl fun K hK => ?_); go_simp; (try go_bits); (first | refine hK _ _ ?_ | refine hK _ ?_); clear hK K))
    refine kl_call rfl rfl rfl Try.func69 rfl (by kernel_rfl) rfl ?_
    refine Calls.mono (rdByte hR) ?_
    rintro e w4 ⟨rfl, hR4⟩
    refine ⟨_, rfl, ?_⟩
    obtain ⟨x, hx⟩ : ∃ x, (taken rl re 1).1.headD 0 = x := ⟨_, rfl⟩
    have HX := Lib.hid hx
    rw [hx]
    clear hx cg hR
    have hbx := byte_lt x
    have c2 := hR4.get (j := k) 0 rfl (hash_cell hs k HL.out hlt)
    have f2 := hR4.free 0 rfl k
    have hR5 := Lib.hid (hR4.cell 0 rfl (by omega) k (bval x))
    clear hR4
    repeat (first | refine kw_seq ?_ | refine kw_block ?_ | refine kw_skip ?_ | refine kw_region ?_ | refine kl_nil ?_ | refine kq_then ?_ | refine kq_block ?_ | refine kw_exit ?_ | refine kq_then_exit ?_ | refine kq_block_here rfl ?_ | refine kq_block_far rfl ?_ | refine kq_again_exit ?_ | refine kw_ret ?_ | refine kq_then_ret ?_ | refine kq_block_ret ?_ | refine kq_again_ret ?_ | refine kw_ift rfl ?_ | refine kw_iff rfl ?_ | refine kl_ung rfl rfl ?_ | refine kl_skipg rfl rfl rfl rfl ?_ | refine kl_skipg0 rfl rfl rfl ?_ | (first | refine kl_move rfl rfl (.inl rfl) rfl rfl ?_ | refine kl_move rfl rfl (.inr rfl) rfl rfl ?_ | refine kl_const rfl rfl (.inl rfl) rfl ?_ | refine kl_const rfl rfl (.inr rfl) rfl ?_) | ((first | refine kl_step rfl rfl rfl fun K hK => ?_ | refine kl_step0 rfl rfl rfl fun K hK => ?_); go_simp; (try go_bits); (first | refine hK _ _ ?_ | refine hK _ ?_); clear hK K))
    refine kq_again (32 - (k + 1)) [1, 2, 4] (by omega) ?_
    simp only [nrm, lk, Nat.reduceBEq, cond_true, cond_false]
    refine ⟨k + 1, by omega, rfl, ?_, by simp only [Int.natCast_add]; rfl⟩
    have := hR5.out
    rw [hash_row hs k x HL.out hlt] at this
    rw [hashN, HH.out]
    unfold hashStep
    simp only
    rw [HX.out]
    exact this
  · obtain rfl : k = 32 := by omega
    have k1 : decide (((32 : Nat) : Int) < 32) = false := by decide
    clear hlt
    rw [Nat.sub_self, List.replicate_zero, List.append_nil] at hR
    have HS := Lib.hid hlen
    clear hlen
    repeat (first | refine kw_seq ?_ | refine kw_region ?_ | refine kq_then ?_ | refine kq_block ?_ | refine kw_exit ?_ | refine kq_then_exit ?_ | refine kq_block_here rfl ?_ | refine kq_again_exit ?_ | refine kw_iff rfl ?_ | refine kl_nil ?_ | (first | refine kl_move rfl rfl (.inl rfl) rfl rfl ?_ | refine kl_move rfl rfl (.inr rfl) rfl rfl ?_ | refine kl_const rfl rfl (.inl rfl) rfl ?_ | refine kl_const rfl rfl (.inr rfl) rfl ?_) | ((first | refine kl_step rfl rfl rfl fun K hK => ?_ | refine kl_step0 rfl rfl rfl fun K hK => ?_); go_simp; (try go_bits); (first | refine hK _ _ ?_ | refine hK _ ?_); clear hK K))
    simp only at hR
    have hz : (Try.prog.info? 27).map (·.size) = some (bv hs).toArray.size := by rw [show (bv hs).toArray.size = 32 by rw [List.size_toArray, length_bv]; exact HS.out]; kernel_rfl
    refine kl_getR hR 0 rfl Try.underlying27 rfl hz rfl rfl rfl rfl rfl ?_
    refine kl_putR hR 0 rfl (by omega) hz rfl (bv_one' hs) rfl rfl rfl rfl rfl (fun hR' => ?_)
    generalize wr.setRow g2 (bv hs).toArray = w5 at *
    refine kl_nil ?_
    refine kq_then ?_
    refine kw_ret ?_
    refine kq_retv (fun a k => results_cell_row rfl _ _ g2 27 (bv hs).toArray (0, 0) _ (k.slot 2 rfl) (hR'.at_ 0 rfl) Try.underlying27 rfl hz) ?_
    unfold HashP
    rw [HH.out]
    exact ⟨rfl, hR'.rd, hR'.grown⟩
theorem rdHash {w0 W : World} {V : Vars} {g : Nat} {l : List UInt8} {e : Int} (h : Rd true w0 W V g l e) : Calls Try.prog 53 #[.agg #[.pointer (some ⟨g, 0, none⟩)]] W fun r W' => r = .returned (.agg (bv (hashN 32 ([], l, e)).1).toArray) ∧ Rd true w0 W' V g (hashN 32 ([], l, e)).2.1 (hashN 32 ([], l, e)).2.2 :=
  Calls.mono (hash_any g l e W h.rd) fun _ _ ⟨h1, h2, h3⟩ => ⟨h1, h.step h3 h2⟩
end Go.Proofs.Ytonjpjiphcbemaa
