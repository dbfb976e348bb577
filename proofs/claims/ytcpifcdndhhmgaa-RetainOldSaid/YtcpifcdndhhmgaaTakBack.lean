/- slices.Backward over what is kept. -/
import Derived.Test.YtcpifcdndhhmgaaTakTake
import Derived.Test.YtcpifcdndhhmgaaKnJ2
import Derived.Test.YtcpifcdndhhmgaaSeal
set_option linter.unusedVariables false
set_option linter.unusedSimpArgs false
namespace Go.Proofs.Ytcpifcdndhhmgaa
open Go.RowKit
attribute [local go_sem] ev_tmp ev_const ev_func ev_global lk_hit lk_miss uponK_value uponK_skip look_tmp look_const look_global look_func valP_value
set_option maxRecDepth 100000 in
set_option maxHeartbeats 1000000 in
theorem back_any (A : Option Addr) (n c : Nat) (w : World) :
    Calls Try.prog 54 #[.slice A n c] w fun e w' => ∃ b2, e = .returned (.func (.func 77) #[] #[.pointer (some ⟨b2, 0, none⟩)]) ∧ Below w.heap.size w w' ∧ w.heap.size ≤ b2 ∧ Boxed w' b2 26 (.slice A n c) := by
  refine calls_kw Try.func54 rfl Try.ntmps54 rfl [(0, .slice A n c)] rfl ?_
  refine kw_seq ?_
  refine kw_region ?_
  refine kl_box1 rfl rfl rfl rfl rfl rfl fun b2 w1 he1 hs1 hb1 hx2 => ?_
  have HB := Lib.hid hb1
  have HX := Lib.hid hx2
  have HI : Hid (w.heap.size ≤ b2) := by show _ ≤ _; rw [he1.out]; omega
  clear hx2 hb1 he1 hs1
  repeat (first | refine kw_seq ?_ | refine kw_block ?_ | refine kw_skip ?_ | refine kw_region ?_ | refine kl_nil ?_ | refine kq_then ?_ | refine kq_block ?_ | refine kw_exit ?_ | refine kq_then_exit ?_ | refine kq_block_here rfl ?_ | refine kq_block_far rfl ?_ | refine kq_again_exit ?_ | refine kw_ret ?_ | refine kq_then_ret ?_ | refine kq_block_ret ?_ | refine kq_again_ret ?_ | refine kw_ift rfl ?_ | refine kw_iff rfl ?_ | refine kl_ung rfl rfl ?_ | refine kl_skipg rfl rfl rfl rfl ?_ | refine kl_skipg0 rfl rfl rfl ?_ | refine kl_makeFunc rfl rfl rfl rfl rfl ?_ | (first | refine kl_move rfl rfl (.inl rfl) rfl rfl ?_ | refine kl_move rfl rfl (.inr rfl) rfl rfl ?_ | refine kl_const rfl rfl (.inl rfl) rfl ?_ | refine kl_const rfl rfl (.inr rfl) rfl ?_) | ((first | refine kl_step rfl rfl rfl fun K hK => ?_ | refine kl_step0 rfl rfl rfl fun K hK => ?_); go_simp; (try go_bits); (first | refine hK _ _ ?_ | refine hK _ ?_); clear hK K))
  exact kq_ret1 rfl rfl ⟨b2, rfl, HB.out, HI.out, HX.out⟩
theorem row_same {W W' : World} {g o : Nat} {cs : List Value} (h : W.rangeAt g o cs) (he : W'.heap[g]? = W.heap[g]?) : W'.rangeAt g o cs := fun j u hu => by
  have := h j u hu
  simpa [World.cell?, he] using this
set_option maxRecDepth 100000 in
set_option maxHeartbeats 2000000 in
theorem back_stops (b2 gK oK n c m : Nat) (A : Option Addr) (ks : List KepS) (hA : 0 < n → A = some ⟨gK, oK, none⟩) (hnc : n ≤ c) (hc : c ≤ 9223372036854775807) (hl : ks.length = n) (hn : n ≤ 1048576) (w : World) (h2 : Boxed w b2 26 (.slice A n c)) (hg : gK < w.heap.size) (hrow : ∀ i p, ks[i]? = some p → w.rangeAt gK (oK + i * 3) (kepC p)) :
    SeqStopsK Fence.wide m Try.prog 77 #[.pointer (some ⟨b2, 0, none⟩)] (fun i : Fin n => #[Value.int .i64 ((n - 1 - i.1 : Nat) : Int), .agg (kepC (ks.getD (n - 1 - i.1) kepZ)).toArray]) (KpC b2 gK)
      (fun xs => xs = List.finRange n) (fun pre => ∃ k, k ≤ n ∧ pre = (List.finRange n).take k) n w := fun l J Jx W hW hJA _ hY h0 => by
  have x2 := boxed_below h2 hW
  have x3 : ∀ i p, ks[i]? = some p → W.rangeAt gK (oK + i * 3) (kepC p) := fun i p hp => row_same (hrow i p hp) (hW.block gK hg)
  have HN := Lib.hid hn
  have HA := Lib.hid hA
  have HL := Lib.hid hl
  clear hJA hW h2 hg hrow hA hl
  obtain ⟨z0, hz0⟩ : ∃ z0 : Int, (n : Int) - 1 = z0 := ⟨_, rfl⟩
  have z1 : -1 ≤ z0 := by omega
  have z2 : z0 ≤ 1048576 := by omega
  have z3 : (n : Int) ≤ 1048576 := by omega
  have HZ := Lib.hid hz0
  have c2 := boxed_cell x2
  refine calls_kc (args := [.func (.yield l) #[] #[], .pointer (some ⟨b2, 0, none⟩)]) Try.func77 rfl Try.ntmps77 rfl [(0, .func (.yield l) #[] #[]), (1, .pointer (some ⟨b2, 0, none⟩))] rfl ?_
  refine kc_seq (kc_plain ?_)
  refine kw_region ?_
  repeat (first | refine kl_nil ?_ | (first | refine kl_move rfl rfl (.inl rfl) rfl rfl ?_ | refine kl_move rfl rfl (.inr rfl) rfl rfl ?_ | refine kl_const rfl rfl (.inl rfl) rfl ?_ | refine kl_const rfl rfl (.inr rfl) rfl ?_) | ((first | refine kl_step rfl rfl rfl fun K hK => ?_ | refine kl_step0 rfl rfl rfl fun K hK => ?_); go_simp; (try go_bits); (first | refine hK _ _ ?_ | refine hK _ ?_); clear hK K))
  refine kq_thenC ?_
  refine kc_less [0, 1, 3] ?_
  simp only [nrm, lk, Nat.reduceBEq, cond_true, cond_false]
  refine kc_block ?_
  refine kc_loop (fun mm L W' => ∃ (k : Nat) (jz : Int), k ≤ n ∧ mm = n - k ∧ Hid (jz = (n : Int) - 1 - k) ∧ J ((List.finRange n).take k) W' ∧ Boxed W' b2 26 (.slice A n c) ∧ Hid (∀ i p, ks[i]? = some p → W'.rangeAt gK (oK + i * 3) (kepC p)) ∧ L = [(0, .func (.yield l) #[] #[]), (1, .pointer (some ⟨b2, 0, none⟩)), (3, .int .i64 jz)]) ⟨0, z0, Nat.zero_le _, rfl, by show _ = _; have := HZ.out; omega, by simpa using h0, x2, x3, rfl⟩ ?_
  clear x2 x3 h0 c2 hz0 z1 z2
  rintro mm L W1 ⟨k, jz, hk, rfl, hjz, hJ, x2, x3, rfl⟩
  have c2 := boxed_cell x2
  have HK := Lib.hid hk
  have HX := Lib.hid x2
  clear x2 hk
  by_cases hlt : 0 ≤ jz
  case neg =>
    have hkn : k = n := by have := hjz.out; have := HK.out; omega
    have t1 : decide (0 ≤ jz) = false := decide_eq_false hlt
    subst hkn
    rw [finTake_all] at hJ
    refine kc_seq (kc_seq (kc_plain ?_))
    refine kw_region ?_
    repeat (first | refine kl_nil ?_ | (first | refine kl_move rfl rfl (.inl rfl) rfl rfl ?_ | refine kl_move rfl rfl (.inr rfl) rfl rfl ?_ | refine kl_const rfl rfl (.inl rfl) rfl ?_ | refine kl_const rfl rfl (.inr rfl) rfl ?_) | ((first | refine kl_step rfl rfl rfl fun K hK => ?_ | refine kl_step0 rfl rfl rfl fun K hK => ?_); go_simp; (try go_bits); (first | refine hK _ _ ?_ | refine hK _ ?_); clear hK K))
    refine kq_thenC ?_
    refine kc_iff rfl ?_
    refine kc_exit ?_
    refine kq_then_exit ?_
    refine kq_then_exit ?_
    refine kq_block_here rfl ?_
    refine kq_end0 rfl ?_
    exact ⟨⟨_, rfl⟩, .inl ⟨_, rfl, hJ⟩⟩
  have hkn : k < n := by have := hjz.out; omega
  obtain ⟨j, hj⟩ : ∃ j, n - 1 - k = j := ⟨_, rfl⟩
  have hjj : jz = (j : Int) := by have := hjz.out; omega
  subst hjj
  have t1 : decide ((0 : Int) ≤ (j : Int)) = true := decide_eq_true hlt
  have HJ := Lib.hid hj
  have hjn : j < ks.length := by rw [HL.out]; omega
  obtain ⟨p, hp⟩ : ∃ p, ks[j]? = some p := ⟨_, List.getElem?_eq_getElem hjn⟩
  have hgd : Hid (ks.getD j kepZ = p) := by show _ = _; rw [List.getD_eq_getElem?_getD, hp]; rfl
  have hAs := HA.out (by omega)
  subst hAs
  have v0 : (0 : Int) ≤ j := by omega
  have v1 : (j : Int) < n := by omega
  have hr := Lib.hid (x3.out j p hp)
  obtain ⟨jn, hjn2⟩ : ∃ jn : Int, (j : Int) - 1 = jn := ⟨_, rfl⟩
  have v3 : -1 ≤ jn := by omega
  have v4 : jn ≤ 1048576 := by omega
  have HJN := Lib.hid hjn2
  have HKN := Lib.hid hkn
  clear hlt hj hjn hp hjn2 hkn hjz
  refine kc_seq (kc_seq (kc_plain ?_))
  refine kw_region ?_
  repeat (first | refine kl_nil ?_ | (first | refine kl_move rfl rfl (.inl rfl) rfl rfl ?_ | refine kl_move rfl rfl (.inr rfl) rfl rfl ?_ | refine kl_const rfl rfl (.inl rfl) rfl ?_ | refine kl_const rfl rfl (.inr rfl) rfl ?_) | ((first | refine kl_step rfl rfl rfl fun K hK => ?_ | refine kl_step0 rfl rfl rfl fun K hK => ?_); go_simp; (try go_bits); (first | refine hK _ _ ?_ | refine hK _ ?_); clear hK K))
  refine kq_thenC ?_
  refine kc_ift rfl ?_
  refine kc_skip ?_
  refine kq_thenC ?_
  refine kc_less [0, 1, 3] ?_
  simp only [nrm, lk, Nat.reduceBEq, cond_true, cond_false]
  refine kc_seq ?_
  refine kc_block ?_
  clear t1
  refine kc_seq ?_
  refine kc_regionY 6 (by rintro ⟨_, _, ⟨⟨v, hv⟩, _⟩⟩; cases hv) ?_
  simp only [List.take_succ_cons, List.take_zero]
  repeat (first | refine kl_nil ?_ | refine kl_load_mid 29 gK _ _ _ hr.out Try.underlying29 rfl (kepInfoL p) rfl rfl rfl rfl rfl ?_ | (first | refine kl_move rfl rfl (.inl rfl) rfl rfl ?_ | refine kl_move rfl rfl (.inr rfl) rfl rfl ?_ | refine kl_const rfl rfl (.inl rfl) rfl ?_ | refine kl_const rfl rfl (.inr rfl) rfl ?_) | ((first | refine kl_step rfl rfl rfl fun K hK => ?_ | refine kl_step0 rfl rfl rfl fun K hK => ?_); go_simp; (try go_bits); (first | refine hK _ _ ?_ | refine hK _ ?_); clear hK K))
  refine kq_yield2 (l2 := _) rfl (by rintro ⟨_, _, ⟨⟨v, hv⟩, _⟩⟩; cases hv) rfl rfl rfl rfl rfl rfl rfl ?_
  have hy := hY _ ⟨k, HKN.out⟩ W1 hJ (by rw [finTake_len n k HK.out]; exact HKN.out)
  dsimp only at hy
  rw [HJ.out, hgd.out, ← finTake] at hy
  clear hY hJ c2
  refine hy.mono ?_
  clear hy
  rintro e' W3 (⟨rfl, hJ3, hK3⟩ | ⟨rfl, hX3⟩)
  · have x2' : Boxed W3 b2 26 (.slice (some ⟨gK, oK, none⟩) n c) := hK3.1.trans HX.out
    have x3' : Hid (∀ i p, ks[i]? = some p → W3.rangeAt gK (oK + i * 3) (kepC p)) := fun i p hp => row_same (x3.out i p hp) hK3.2
    have HX3 := Lib.hid x2'
    clear x2' hK3
    refine ⟨true, rfl, ?_⟩
    repeat (first | refine kl_nil ?_ | (first | refine kl_move rfl rfl (.inl rfl) rfl rfl ?_ | refine kl_move rfl rfl (.inr rfl) rfl rfl ?_ | refine kl_const rfl rfl (.inl rfl) rfl ?_ | refine kl_const rfl rfl (.inr rfl) rfl ?_) | ((first | refine kl_step rfl rfl rfl fun K hK => ?_ | refine kl_step0 rfl rfl rfl fun K hK => ?_); go_simp; (try go_bits); (first | refine hK _ _ ?_ | refine hK _ ?_); clear hK K))
    refine kq_thenC ?_
    refine kc_iff rfl ?_
    refine kc_skip ?_
    refine kq_block ?_
    refine kq_thenC ?_
    refine kc_plain ?_
    refine kw_region ?_
    have hjn2 := HJN.out
    repeat (first | refine kl_nil ?_ | (first | refine kl_move rfl rfl (.inl rfl) rfl rfl ?_ | refine kl_move rfl rfl (.inr rfl) rfl rfl ?_ | refine kl_const rfl rfl (.inl rfl) rfl ?_ | refine kl_const rfl rfl (.inr rfl) rfl ?_) | ((first | refine kl_step rfl rfl rfl fun K hK => ?_ | refine kl_step0 rfl rfl rfl fun K hK => ?_); go_simp; (try go_bits); (first | refine hK _ _ ?_ | refine hK _ ?_); clear hK K))
    refine kq_again (n - (k + 1)) [0, 1, 3] (by have := HKN.out; omega) ?_
    exact ⟨k + 1, jn, HKN.out, rfl, by show _ = _; have := HJN.out; have := HJ.out; have := HKN.out; omega, hJ3, HX3.out, x3', rfl⟩
  · refine ⟨false, rfl, ?_⟩
    repeat (first | refine kl_nil ?_ | (first | refine kl_move rfl rfl (.inl rfl) rfl rfl ?_ | refine kl_move rfl rfl (.inr rfl) rfl rfl ?_ | refine kl_const rfl rfl (.inl rfl) rfl ?_ | refine kl_const rfl rfl (.inr rfl) rfl ?_) | ((first | refine kl_step rfl rfl rfl fun K hK => ?_ | refine kl_step0 rfl rfl rfl fun K hK => ?_); go_simp; (try go_bits); (first | refine hK _ _ ?_ | refine hK _ ?_); clear hK K))
    refine kq_thenC ?_
    refine kc_ift rfl ?_
    refine kc_ret ?_
    refine kq_block_ret ?_
    refine kq_then_ret ?_
    refine kq_again_ret ?_
    refine kq_block_ret ?_
    refine kq_ret0 rfl ?_
    exact ⟨⟨_, rfl⟩, .inr ⟨_, ⟨k + 1, HKN.out, rfl⟩, hX3⟩⟩
end Go.Proofs.Ytcpifcdndhhmgaa
