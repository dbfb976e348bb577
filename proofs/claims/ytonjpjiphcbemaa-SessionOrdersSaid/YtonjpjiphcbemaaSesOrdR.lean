/- SessionOrders: a round. -/
import Derived.Test.YtonjpjiphcbemaaSesOrdM
namespace Go.Proofs.Ytonjpjiphcbemaa
open Go.RowKit
attribute [local go_sem] ev_tmp ev_const ev_func ev_global lk_hit lk_miss uponK_value uponK_skip look_tmp look_const look_global look_func
set_option maxRecDepth 100000 in
set_option maxHeartbeats 4000000 in
theorem orders_round {w wr : World} {g7 gg n q N c i n2 c2 : Nat} {A A2 : Option Addr} {D Gv : Value} {b : List UInt8} {zs : List Int} {s : Ses} {G : List Bool} {Q : Exit → Act → World → Prop} (h0 : 0 < n) (hn : n ≤ 300) (hq : 0 < q) (hq2 : q ≤ 64) (hN : N = nPc n q) (hN3 : N ≤ 300) (hn2 : n2 ≤ 100) (hi : i < n2 + N) (hA : Bs w A n b) (hnc : n ≤ c) (hc : c ≤ 140737488351232) (hO : OrdI b q s G) (hM : SesM wr s D Gv)
  (hA2 : Vs w A2 n2 (zs.map (Value.int .i64)))
  (hL : Lay w wr [(gg, (bls G).toArray, 4), (g7, (sesV s D Gv).toArray, 30)])
  (hQ : ∀ (k : Nat), k < N → (n2 ≤ i → k = i - n2) → ∀ (w' : World) (D' G' : Value) (s' : Ses) (L1 : Nat), OrdI b q s' (G.set k true) → SesM w' s' D' G' → L1 = cnt false (G.set k true) → Lay w w' [(gg, (bls (G.set k true)).toArray, 4), (g7, (sesV s' D' G').toArray, 30)] → KQ Q .normal 154 [(0, .slice A n c), (1, .int .i64 (q : Int)), (2, .slice A2 n2 c2), (7, .pointer (some ⟨g7, 0, none⟩)), (9, .int .i64 (N : Int)), (10, .slice (some ⟨gg, 0, none⟩) N N), (11, .int .i64 (L1 : Int)), (12, .int .i64 (i : Int))] w') :
    KW Try.prog (blockOf Try.f3 1) Q 154 [(0, .slice A n c), (1, .int .i64 (q : Int)), (2, .slice A2 n2 c2), (7, .pointer (some ⟨g7, 0, none⟩)), (9, .int .i64 (N : Int)), (10, .slice (some ⟨gg, 0, none⟩) N N), (11, .int .i64 (cnt false G : Int)), (12, .int .i64 (i : Int))] wr := by
  conv => arg 2; whnf
  refine kw_block ?_
  have hN0 : 0 < N := by subst hN; exact Nat.lt_of_le_of_lt (Nat.zero_le _) (pc_of hq h0)
  have HQ := Lib.hid hQ
  have HA := Lib.hid hA
  have HO := Lib.hid hO
  have HM := Lib.hid hM
  have HNN := Lib.hid hN
  have HC := Lib.hid (And.intro hnc hc)
  clear hQ hA hO hM hN hnc hc
  obtain ⟨L1, hL1⟩ : ∃ L1, cnt false G = L1 := ⟨_, rfl⟩
  rw [hL1]
  have HL1 := Lib.hid hL1
  clear hL1
  by_cases hlo : i < n2
  · have t1 : decide ((i : Int) < (n2 : Int)) = true := by rw [decide_eq_true_eq]; omega
    have i0 : (0 : Int) ≤ i := by omega
    have i1 : (i : Int) < n2 := by omega
    obtain ⟨b2, o2, u, rfl, cu, _, hu⟩ := Vs.next hA2 hlo
    obtain ⟨zi, hzi, rfl⟩ : ∃ zi, zs[i]? = some zi ∧ Value.int .i64 zi = u := by have := hu.out; rw [List.getElem?_map] at this; cases hz : zs[i]? <;> rw [hz] at this <;> simp at this; exact ⟨_, rfl, this⟩
    replace cu := Keeps.of_below hL.below _ _ cu
    have HA2 := Lib.hid hA2
    clear hu hzi hA2
    repeat (first | refine kw_seq ?_ | refine kw_region ?_ | refine kl_nil ?_ | refine kq_then ?_ | refine kl_ung rfl rfl ?_ | refine kl_skipg rfl rfl rfl rfl ?_ | refine kl_skipg0 rfl rfl rfl ?_ | (first | refine kl_move rfl rfl (.inl rfl) rfl rfl ?_ | refine kl_move rfl rfl (.inr rfl) rfl rfl ?_ | refine kl_const rfl rfl (.inl rfl) rfl ?_ | refine kl_const rfl rfl (.inr rfl) rfl ?_) | ((first | refine kl_step rfl rfl rfl fun K hK => ?_ | refine kl_step0 rfl rfl rfl fun K hK => ?_); go_simp; (try go_bits); (first | refine hK _ _ ?_ | refine hK _ ?_); clear hK K))
    refine kw_ift rfl ?_
    repeat (first | refine kw_seq ?_ | refine kw_region ?_ | refine kl_nil ?_ | refine kq_then ?_ | refine kl_ung rfl rfl ?_ | refine kl_skipg rfl rfl rfl rfl ?_ | refine kl_skipg0 rfl rfl rfl ?_ | (first | refine kl_move rfl rfl (.inl rfl) rfl rfl ?_ | refine kl_move rfl rfl (.inr rfl) rfl rfl ?_ | refine kl_const rfl rfl (.inl rfl) rfl ?_ | refine kl_const rfl rfl (.inr rfl) rfl ?_) | ((first | refine kl_step rfl rfl rfl fun K hK => ?_ | refine kl_step0 rfl rfl rfl fun K hK => ?_); go_simp; (try go_bits); (first | refine hK _ _ ?_ | refine hK _ ?_); clear hK K))
    refine kl_call rfl rfl rfl Try.func12 rfl (by kernel_rfl) rfl ?_
    refine Calls.mono (within_any zi N _ _ rfl (by omega) (by omega)) ?_
    rintro e _ ⟨rfl, rfl⟩
    refine ⟨_, rfl, ?_⟩
    have hk := within_lt zi N (by omega)
    generalize within zi N = k at hk
    clear cu i0 i1 t1
    have t1 : decide ((k : Int) < 0) = false := by rw [decide_eq_false_iff_not]; omega
    have t2 : decide (N ≤ k) = false := by rw [decide_eq_false_iff_not]; omega
    repeat (first | refine kw_seq ?_ | refine kw_region ?_ | refine kl_nil ?_ | refine kq_then ?_ | refine kl_ung rfl rfl ?_ | refine kl_skipg rfl rfl rfl rfl ?_ | refine kl_skipg0 rfl rfl rfl ?_ | (first | refine kl_move rfl rfl (.inl rfl) rfl rfl ?_ | refine kl_move rfl rfl (.inr rfl) rfl rfl ?_ | refine kl_const rfl rfl (.inl rfl) rfl ?_ | refine kl_const rfl rfl (.inr rfl) rfl ?_) | ((first | refine kl_step rfl rfl rfl fun K hK => ?_ | refine kl_step0 rfl rfl rfl fun K hK => ?_); go_simp; (try go_bits); (first | refine hK _ _ ?_ | refine hK _ ?_); clear hK K))
    refine kw_iff rfl ?_
    refine kw_skip ?_
    refine kq_then ?_
    refine KW.less [0, 1, 2, 7, 9, 10, 11, 12, 13] ?_
    simp only [nrm, lk, Nat.reduceBEq, cond_true, cond_false]
    rw [← HL1.out]
    exact orders_mid h0 hn hq hq2 HNN.out hk HA.out HC.out.1 HC.out.2 HO.out HM.out hL (fun w' D' G' s' L1 x1 x2 x3 x4 => kq_block (HQ.out k hk (fun h => absurd h (by omega)) w' D' G' s' L1 x1 x2 x3 x4))
  · obtain ⟨k, rfl⟩ : ∃ k, i = n2 + k := ⟨i - n2, by omega⟩
    have hk : k < N := by omega
    have t1 : decide (((n2 + k : Nat) : Int) < (n2 : Int)) = false := by rw [decide_eq_false_iff_not]; omega
    have s1 : ((n2 + k : Nat) : Int) - (n2 : Int) = (k : Int) := by omega
    have s2 : IntKind.i64.wrap (((n2 + k : Nat) : Int) - (n2 : Int)) = (k : Int) := by rw [s1, IntWalk.i64_in _ (by omega)]
    have t3 : decide ((k : Int) < 0) = false := by rw [decide_eq_false_iff_not]; omega
    have t2 : decide (N ≤ k) = false := by rw [decide_eq_false_iff_not]; omega
    have HA2 := Lib.hid hA2
    obtain ⟨i, hie⟩ : ∃ i : Int, ((n2 + k : Nat) : Int) = i := ⟨_, rfl⟩
    rw [hie] at t1 s1 s2 ⊢
    have HI := Lib.hid hie
    clear hA2 s1 hie
    repeat (first | refine kw_seq ?_ | refine kw_region ?_ | refine kl_nil ?_ | refine kq_then ?_ | refine kl_ung rfl rfl ?_ | refine kl_skipg rfl rfl rfl rfl ?_ | refine kl_skipg0 rfl rfl rfl ?_ | (first | refine kl_move rfl rfl (.inl rfl) rfl rfl ?_ | refine kl_move rfl rfl (.inr rfl) rfl rfl ?_ | refine kl_const rfl rfl (.inl rfl) rfl ?_ | refine kl_const rfl rfl (.inr rfl) rfl ?_) | ((first | refine kl_step rfl rfl rfl fun K hK => ?_ | refine kl_step0 rfl rfl rfl fun K hK => ?_); go_simp; (try go_bits); (first | refine hK _ _ ?_ | refine hK _ ?_); clear hK K))
    refine kw_iff rfl ?_
    refine kw_skip ?_
    refine kq_then ?_
    repeat (first | refine kw_seq ?_ | refine kw_region ?_ | refine kl_nil ?_ | refine kq_then ?_ | refine kl_ung rfl rfl ?_ | refine kl_skipg rfl rfl rfl rfl ?_ | refine kl_skipg0 rfl rfl rfl ?_ | (first | refine kl_move rfl rfl (.inl rfl) rfl rfl ?_ | refine kl_move rfl rfl (.inr rfl) rfl rfl ?_ | refine kl_const rfl rfl (.inl rfl) rfl ?_ | refine kl_const rfl rfl (.inr rfl) rfl ?_) | ((first | refine kl_step rfl rfl rfl fun K hK => ?_ | refine kl_step0 rfl rfl rfl fun K hK => ?_); go_simp; (try go_bits); (first | refine hK _ _ ?_ | refine hK _ ?_); clear hK K))
    refine kw_iff rfl ?_
    refine kw_skip ?_
    refine kq_then ?_
    refine KW.less [0, 1, 2, 7, 9, 10, 11, 12, 13] ?_
    simp only [nrm, lk, Nat.reduceBEq, cond_true, cond_false]
    rw [← HL1.out]
    refine orders_mid h0 hn hq hq2 HNN.out hk HA.out HC.out.1 HC.out.2 HO.out HM.out hL (fun w' D' G' s' L1 x1 x2 x3 x4 => ?_)
    have := kq_block (id := 1) (HQ.out k hk (fun _ => by omega) w' D' G' s' L1 x1 x2 x3 x4)
    rw [HI.out] at this
    exact this
end Go.Proofs.Ytonjpjiphcbemaa
