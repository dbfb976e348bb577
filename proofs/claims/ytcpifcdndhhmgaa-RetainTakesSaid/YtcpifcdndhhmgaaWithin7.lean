/- The cells of a row of variables. A number from 0 to n - 1: plainly. within of the law's package. -/
import Derived.Test.YtcpifcdndhhmgaaTakOf
import Derived.Test.YtcpifcdndhhmgaaLib
import Derived.Test.YtcpifcdndhhmgaaChecked
set_option linter.unusedVariables false
set_option linter.unusedSimpArgs false
namespace Go.Proofs.Ytcpifcdndhhmgaa
open Go.RowKit
attribute [local go_sem] ev_tmp ev_const ev_func ev_global lk_hit lk_miss uponK_value uponK_skip look_tmp look_const look_global look_func valP_value
theorem cells_next (l : List SymA) (k : Nat) (a : SymA) (h : l.take (k + 1) = l.take k ++ [a]) : cellsP ((l.take (k + 1)).map (·.s)) = cellsP ((l.take k).map (·.s)) ++ ofP a.s := by
  rw [h]; simp [cellsP]
theorem cellsP_len (l : List SymA) (k : Nat) (hok : ∀ a ∈ l, TypOk a.s.typ ∧ a.s.name.length ≤ 1000) : (cellsP ((l.take k).map (·.s))).length ≤ 8 * k := by
  have h1 := cells_len' ((l.take k).map (·.s)) (fun s hs => by
    obtain ⟨a, ha, rfl⟩ := List.mem_map.1 hs
    exact (hok a (List.mem_of_mem_take ha)).1)
  have h2 : ((l.take k).map (·.s)).length ≤ k := by simp; omega
  omega
theorem of_len_pos {s : SymV} (h : TypOk s.typ) : 0 < (ofP s).length ∧ (ofP s).length ≤ 8 := by
  have h1 := base_pos h
  have h2 := base_le h
  have h3 : (ofP s).length = (baseP s).length := by simp [ofP]
  omega
theorem symSize2 (a : SymA) : (Try.prog.info? 73).map (·.size) = some (symC a).length := by rw [symSize]; rfl
set_option maxRecDepth 100000 in
set_option maxHeartbeats 2000000 in
theorem cells8_any (A : Option Addr) (n c : Nat) (l : List SymA) (w : World) (hA : Syms w A n l) (hn : n ≤ 1000) (hok : ∀ a ∈ l, TypOk a.s.typ ∧ a.s.name.length ≤ 1000) :
    Calls Try.prog 27 #[.slice A n c] w fun e w' => ∃ A n c, e = .returned (.slice A n c) ∧ Rw cellE w' A n (cellsP (l.map (·.s))) ∧ n ≤ c ∧ c ≤ 9223372036854775807 ∧ Below w.heap.size w w' ∧ (∀ a, A = some a → w.heap.size ≤ a.block) := by
  have HL := Lib.hid hA.row.len
  have HOK := Lib.hid hok
  refine calls_kw Try.func27 rfl Try.ntmps27 rfl [(0, .slice A n c)] rfl ?_
  repeat (first | refine kw_seq ?_ | refine kw_region ?_ | refine kl_nil ?_ | refine kq_then ?_ | (first | refine kl_move rfl rfl (.inl rfl) rfl rfl ?_ | refine kl_move rfl rfl (.inr rfl) rfl rfl ?_ | refine kl_const rfl rfl (.inl rfl) rfl ?_ | refine kl_const rfl rfl (.inr rfl) rfl ?_))
  refine KW.less [0, 3, 4] ?_
  simp only [nrm, lk, Nat.reduceBEq, cond_true, cond_false]
  refine kw_block ?_
  refine kw_loop (fun mm L W => ∃ k v, k ≤ n ∧ mm = n - k ∧ Hid (Below w.heap.size w W) ∧ Hid (W.ownsRow w.heap.size 63 6 v (cellsP ((l.take k).map (·.s))).length (flatR cellE (cellsP ((l.take k).map (·.s))))) ∧ L = [(0, .slice A n c), (3, v), (4, .int .i64 (k : Int))]) ⟨0, .slice none 0 0, by omega, rfl, Below.refl _ _, World.ownsRow_nil _ _ _ _, rfl⟩ ?_
  rintro mm L W ⟨k, v, hk, rfl, hb, ho, rfl⟩
  by_cases hlt : k < n
  case neg =>
    obtain rfl : n = k := by omega
    have t1 : decide ((n : Int) < (n : Int)) = false := by simp
    have t1n : decide (n < n) = false := by simp
    rw [List.take_of_length_le (by rw [HL.out]; exact Nat.le_refl _)] at ho
    obtain ⟨A9, c9, rfl, hr9, hn9, hc9, _, hf9⟩ := own_rw (E := cellE) ho.out rfl
    clear hlt
    repeat (first | refine kw_seq ?_ | refine kw_block ?_ | refine kw_skip ?_ | refine kw_region ?_ | refine kl_nil ?_ | refine kq_then ?_ | refine kq_block ?_ | refine kw_exit ?_ | refine kq_then_exit ?_ | refine kq_block_here rfl ?_ | refine kq_block_far rfl ?_ | refine kq_again_exit ?_ | refine kw_ret ?_ | refine kq_then_ret ?_ | refine kq_block_ret ?_ | refine kq_again_ret ?_ | refine kw_ift rfl ?_ | refine kw_iff rfl ?_ | refine kl_ung rfl rfl ?_ | refine kl_skipg rfl rfl rfl rfl ?_ | refine kl_skipg0 rfl rfl rfl ?_ | (first | refine kl_move rfl rfl (.inl rfl) rfl rfl ?_ | refine kl_move rfl rfl (.inr rfl) rfl rfl ?_ | refine kl_const rfl rfl (.inl rfl) rfl ?_ | refine kl_const rfl rfl (.inr rfl) rfl ?_) | ((first | refine kl_step rfl rfl rfl fun K hK => ?_ | refine kl_step0 rfl rfl rfl fun K hK => ?_); go_simp; (try go_bits); (first | refine hK _ _ ?_ | refine hK _ ?_); clear hK K))
    exact kq_ret1 rfl rfl ⟨_, _, _, rfl, hr9, hn9, hc9, hb.out, hf9⟩
  have t1 : decide ((k : Int) < (n : Int)) = true := by rw [decide_eq_true_eq]; omega
  have t1n : decide (k < n) = true := decide_eq_true hlt
  have u0 : (0 : Int) ≤ k := by omega
  have u1 : (k : Int) < n := by omega
  obtain ⟨g, o, a, rfl, hr, ht, hx⟩ := hA.row.next hlt
  have hrt : Hid (W.rangeAt g (o + k * 7) (symC a)) := fun j u hu => Keeps.of_below hb.out _ _ (hr j u hu)
  have HM := Lib.hid (hA.mem a (List.mem_of_getElem? hx.out))
  have HT := Lib.hid (HOK.out a (List.mem_of_getElem? hx.out))
  obtain ⟨nk, hnk⟩ : ∃ nk, k + 1 = nk := ⟨_, rfl⟩
  have k1 : (k : Int) + 1 = (nk : Int) := by omega
  have k2 : (0 : Int) ≤ nk := by omega
  have k3 : (nk : Int) ≤ 1000 := by omega
  have hnx := cells_next l k a ht.out
  rw [hnk] at hnx
  have HNX := Lib.hid hnx
  have HLE := Lib.hid (cellsP_len l k hok)
  have HK := Lib.hid (And.intro hnk hlt)
  clear hr hlt hk hnk ht hx hnx
  obtain ⟨cur, hcur⟩ : ∃ cur, cellsP ((l.take k).map (·.s)) = cur := ⟨_, rfl⟩
  rw [hcur] at ho HNX HLE
  clear hcur
  repeat (first | refine kw_seq ?_ | refine kw_block ?_ | refine kw_region ?_ | refine kl_nil ?_ | refine kq_then ?_ | refine kw_ift rfl ?_ | refine kw_skip ?_ | refine kl_ung rfl rfl ?_ | refine kl_load_mid 73 g _ _ _ hrt.out Try.underlying73 rfl (symSize2 _) rfl rfl rfl rfl rfl ?_ | (first | refine kl_move rfl rfl (.inl rfl) rfl rfl ?_ | refine kl_move rfl rfl (.inr rfl) rfl rfl ?_ | refine kl_const rfl rfl (.inl rfl) rfl ?_ | refine kl_const rfl rfl (.inr rfl) rfl ?_) | ((first | refine kl_step rfl rfl rfl fun K hK => ?_ | refine kl_step0 rfl rfl rfl fun K hK => ?_); go_simp; (try go_bits); (first | refine hK _ _ ?_ | refine hK _ ?_); clear hK K))
  refine kl_call rfl rfl rfl Try.func50 rfl (by kernel_rfl) rfl ?_
  refine Calls.mono (of_any a W (HM.out.keep (.of_below hb.out)) HT.out.1 HT.out.2) ?_
  rintro e w2 ⟨A2, n2, c2, rfl, hr2, hn2, hc2, hb2⟩
  refine ⟨_, rfl, ?_⟩
  have HO2 := Lib.hid (own_below ho.out hb2)
  have HB2 := Lib.hid (below_then hb.out hb2 hb.out.size)
  have hlp := of_len_pos HT.out.1
  have hl2 : (ofP a.s).length = n2 := hr2.len
  obtain ⟨b2, o2, rfl, hcl⟩ := hr2.flat.2 (by show 0 < n2 * 6; omega)
  have hfl : (flatR cellE (ofP a.s)).length = n2 * 6 := by rw [flatR_len, hl2]; rfl
  have hle2 : n2 ≤ 8 := by omega
  clear hr2 hb2 hb ho hlp
  refine kl_appendN 58 63 _ 6 56 Try.underlying58 cellInfo3 rfl (by omega) w.heap.size v cur.length (flatR cellE cur) HO2.out b2 o2 n2 c2 (flatR cellE (ofP a.s)) hfl hcl (flatR_one cellE _) (by have := HLE.out; have := HK.out; omega) (by have := HLE.out; have := HK.out; omega) HB2.out.size rfl rfl rfl rfl rfl rfl ?_
  intro v4 w4 ho4 hg4 hv4
  have HB4 := Lib.hid (below_appendN HB2.out hg4 HO2.out HB2.out.size)
  rw [← hl2, ← List.length_append, ← flatR_append, ← HNX.out] at ho4
  have HO4 := Lib.hid ho4
  clear ho4 hg4 hv4 HO2 HB2 hcl hfl hl2
  repeat (first | refine kw_seq ?_ | refine kw_block ?_ | refine kw_region ?_ | refine kl_nil ?_ | refine kq_then ?_ | refine kq_block ?_ | refine kw_ift rfl ?_ | refine kw_iff rfl ?_ | refine kw_skip ?_ | refine kl_ung rfl rfl ?_ | refine kl_skipg rfl rfl rfl rfl ?_ | (first | refine kl_move rfl rfl (.inl rfl) rfl rfl ?_ | refine kl_move rfl rfl (.inr rfl) rfl rfl ?_ | refine kl_const rfl rfl (.inl rfl) rfl ?_ | refine kl_const rfl rfl (.inr rfl) rfl ?_) | ((first | refine kl_step rfl rfl rfl fun K hK => ?_ | refine kl_step0 rfl rfl rfl fun K hK => ?_); go_simp; (try go_bits); (first | refine hK _ _ ?_ | refine hK _ ?_); clear hK K))
  refine kq_again (n - nk) [0, 3, 4] (by have := HK.out; omega) ?_
  exact ⟨nk, v4, by have := HK.out; omega, rfl, HB4, HO4, rfl⟩
end Go.Proofs.Ytcpifcdndhhmgaa
set_option linter.unusedVariables false
set_option linter.unusedSimpArgs false
namespace Go.Proofs.Ytcpifcdndhhmgaa
open Go.RowKit

theorem emod_neg_ (x n : Int) (h : x.tmod n < 0) (h0 : 0 < n) : x.tmod n + n = x % n := by
  have := Int.tmod_eq_emod (a := x) (b := n)
  have hb := Int.emod_lt_of_pos x h0
  have hc := Int.emod_nonneg x (Int.ne_of_gt h0)
  split at this <;> omega
theorem emod_pos_ (x n : Int) (h : 0 ≤ x.tmod n) (h0 : 0 < n) : x.tmod n = x % n := by
  have := Int.tmod_eq_emod (a := x) (b := n)
  have hb := Int.emod_lt_of_pos x h0
  have hc := Int.emod_nonneg x (Int.ne_of_gt h0)
  split at this <;> omega

/-- a number from 0 to n - 1 -/
def within (x : Int) (n : Nat) : Nat := (x % (n : Int)).toNat
theorem within_lt (x : Int) (n : Nat) (h : 0 < n) : within x n < n := by
  have := Int.emod_lt_of_pos x (show (0 : Int) < n by omega)
  have := Int.emod_nonneg x (show (n : Int) ≠ 0 by omega)
  unfold within; omega

end Go.Proofs.Ytcpifcdndhhmgaa
set_option linter.unusedVariables false
set_option linter.unusedSimpArgs false
namespace Go.Proofs.Ytcpifcdndhhmgaa
open Go.RowKit

theorem within7_any (x : Int) (n : Nat) (N : Int) (w : World) (hN : N = n) (h0 : 0 < n) (hn : n ≤ 4294967296) :
    Calls Try.prog 76 #[.int .i64 x, .int .i64 N] w fun e w' => e = .returned (.int .i64 (within x n : Int)) ∧ w = w' := by
  subst hN
  have h0' : (0 : Int) < n := by omega
  have h1 : x.tmod n < n := Int.tmod_lt_of_pos x h0'
  have h2 : -(n : Int) < x.tmod n := by
    have := Int.tmod_eq_emod (a := x) (b := n)
    have hc := Int.emod_nonneg x (Int.ne_of_gt h0')
    split at this <;> omega
  have hm := Int.emod_nonneg x (Int.ne_of_gt h0')
  have hW : ((within x n : Nat) : Int) = x % n := by unfold within; omega
  clear hm
  rw [hW]
  clear hW
  go_enter Try.func76, Try.ntmps76
  go_wp2
  · go_ret
    exact ⟨ret_int (emod_neg_ x n (by assumption) h0'), rfl⟩
  · go_ret
    exact ⟨ret_int (emod_pos_ x n (by omega) h0'), rfl⟩
end Go.Proofs.Ytcpifcdndhhmgaa
