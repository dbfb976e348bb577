/- ShaParts: the walk. -/
import Derived.Test.YtkjfejkikejnhaaShaEq
import Derived.Test.YtkjfejkikejnhaaShaRef
import Derived.Test.YtkjfejkikejnhaaWithin3
import Derived.Test.YtkjfejkikejnhaaKnOps
namespace Go.Proofs.Ytkjfejkikejnhaa
open Go.RowKit
attribute [local go_sem] ev_tmp ev_const ev_func ev_global lk_hit lk_miss uponK_value uponK_skip look_tmp look_const look_global look_func
theorem parts_step (b : List UInt8) (at' n : Nat) : b.take at' ++ (b.take (at' + n)).drop at' = b.take (at' + n) := by
  have h := List.take_append_drop at' (b.take (at' + n))
  rw [List.take_take, Nat.min_eq_left (by omega)] at h
  exact h
set_option maxRecDepth 100000 in
set_option maxHeartbeats 4000000 in
theorem shaParts_top (A : Option Addr) (n c : Nat) (b : List UInt8) (A' : Option Addr) (n' c' : Nat) (zs : List Int) (w : World) (hA : Bs w A n b) (hnc : n ≤ c) (hc : c ≤ 140737488351232) (hA' : Vs w A' n' (zs.map (Value.int .i64)))
    (hnc' : n' ≤ c') (hc' : c' ≤ 140737488351232) (hzs : ∀ z ∈ zs, -9223372036854775808 ≤ z ∧ z ≤ 9223372036854775807) :
    Calls Try.prog 7 #[.slice A n c, .slice A' n' c'] w fun e w' => e = .returned (.bool true) ∧ Below w.heap.size w w' := by
  have HN := Lib.hid hA.len
  have HZ := Lib.hid hzs
  have HZL : Hid (zs.length = n') := by show _ = _; simpa using hA'.1
  clear hzs
  refine calls_kw Try.func7 rfl Try.ntmps7 rfl [(0, .slice A n c), (1, .slice A' n' c')] rfl ?_
  repeat (first | refine kw_seq ?_ | refine kw_skip ?_ | refine kw_region ?_ | refine kl_nil ?_ | refine kq_then ?_ | refine kq_block ?_ | refine kw_exit ?_ | refine kq_then_exit ?_ | refine kq_block_here rfl ?_ | refine kq_block_far rfl ?_ | refine kq_again_exit ?_ | refine kw_ret ?_ | refine kq_then_ret ?_ | refine kq_block_ret ?_ | refine kq_again_ret ?_ | refine kw_ift rfl ?_ | refine kw_iff rfl ?_ | refine kl_ung rfl rfl ?_ | refine kl_skipg rfl rfl rfl rfl ?_ | refine kl_skipg0 rfl rfl rfl ?_ | (first | refine kl_move rfl rfl (.inl rfl) rfl rfl ?_ | refine kl_move rfl rfl (.inr rfl) rfl rfl ?_ | refine kl_const rfl rfl (.inl rfl) rfl ?_ | refine kl_const rfl rfl (.inr rfl) rfl ?_))
  refine kl_call rfl rfl rfl Try.func8 rfl (by kernel_rfl) rfl ?_
  refine Calls.mono (known_any _) ?_
  rintro e w1 ⟨rfl, hb1⟩
  refine ⟨_, rfl, ?_⟩
  by_cases hn : n ≤ 300 ∧ n' ≤ 20
  case neg =>
    by_cases h1 : n ≤ 300
    · have h2 : decide ((20 : Int) < n') = true := by rw [decide_eq_true_eq]; omega
      have h3 : decide ((300 : Int) < n) = false := by rw [decide_eq_false_iff_not]; omega
      clear hn
      repeat (first | refine kw_seq ?_ | refine kw_skip ?_ | refine kw_region ?_ | refine kl_nil ?_ | refine kq_then ?_ | refine kq_block ?_ | refine kw_exit ?_ | refine kq_then_exit ?_ | refine kq_block_here rfl ?_ | refine kq_block_far rfl ?_ | refine kq_again_exit ?_ | refine kw_ret ?_ | refine kq_then_ret ?_ | refine kq_block_ret ?_ | refine kq_again_ret ?_ | refine kw_ift rfl ?_ | refine kw_iff rfl ?_ | refine kl_ung rfl rfl ?_ | refine kl_skipg rfl rfl rfl rfl ?_ | refine kl_skipg0 rfl rfl rfl ?_ | (first | refine kl_move rfl rfl (.inl rfl) rfl rfl ?_ | refine kl_move rfl rfl (.inr rfl) rfl rfl ?_ | refine kl_const rfl rfl (.inl rfl) rfl ?_ | refine kl_const rfl rfl (.inr rfl) rfl ?_) | ((first | refine kl_step rfl rfl rfl fun K hK => ?_ | refine kl_step0 rfl rfl rfl fun K hK => ?_); go_simp; (try go_bits); (first | refine hK _ _ ?_ | refine hK _ ?_); clear hK K))
      exact kq_ret1 rfl rfl ⟨rfl, hb1⟩
    · have h2 : decide ((300 : Int) < n) = true := by rw [decide_eq_true_eq]; omega
      clear hn
      repeat (first | refine kw_seq ?_ | refine kw_skip ?_ | refine kw_region ?_ | refine kl_nil ?_ | refine kq_then ?_ | refine kq_block ?_ | refine kw_exit ?_ | refine kq_then_exit ?_ | refine kq_block_here rfl ?_ | refine kq_block_far rfl ?_ | refine kq_again_exit ?_ | refine kw_ret ?_ | refine kq_then_ret ?_ | refine kq_block_ret ?_ | refine kq_again_ret ?_ | refine kw_ift rfl ?_ | refine kw_iff rfl ?_ | refine kl_ung rfl rfl ?_ | refine kl_skipg rfl rfl rfl rfl ?_ | refine kl_skipg0 rfl rfl rfl ?_ | (first | refine kl_move rfl rfl (.inl rfl) rfl rfl ?_ | refine kl_move rfl rfl (.inr rfl) rfl rfl ?_ | refine kl_const rfl rfl (.inl rfl) rfl ?_ | refine kl_const rfl rfl (.inr rfl) rfl ?_) | ((first | refine kl_step rfl rfl rfl fun K hK => ?_ | refine kl_step0 rfl rfl rfl fun K hK => ?_); go_simp; (try go_bits); (first | refine hK _ _ ?_ | refine hK _ ?_); clear hK K))
      exact kq_ret1 rfl rfl ⟨rfl, hb1⟩
  obtain ⟨hn1, hn2⟩ := hn
  have h3 : decide ((300 : Int) < n) = false := by rw [decide_eq_false_iff_not]; omega
  have h4 : decide ((20 : Int) < n') = false := by rw [decide_eq_false_iff_not]; omega
  repeat (first | refine kw_seq ?_ | refine kw_skip ?_ | refine kw_region ?_ | refine kl_nil ?_ | refine kq_then ?_ | refine kq_block ?_ | refine kw_exit ?_ | refine kq_then_exit ?_ | refine kq_block_here rfl ?_ | refine kq_block_far rfl ?_ | refine kq_again_exit ?_ | refine kw_ret ?_ | refine kq_then_ret ?_ | refine kq_block_ret ?_ | refine kq_again_ret ?_ | refine kw_ift rfl ?_ | refine kw_iff rfl ?_ | refine kl_ung rfl rfl ?_ | refine kl_skipg rfl rfl rfl rfl ?_ | refine kl_skipg0 rfl rfl rfl ?_ | (first | refine kl_move rfl rfl (.inl rfl) rfl rfl ?_ | refine kl_move rfl rfl (.inr rfl) rfl rfl ?_ | refine kl_const rfl rfl (.inl rfl) rfl ?_ | refine kl_const rfl rfl (.inr rfl) rfl ?_) | ((first | refine kl_step rfl rfl rfl fun K hK => ?_ | refine kl_step0 rfl rfl rfl fun K hK => ?_); go_simp; (try go_bits); (first | refine hK _ _ ?_ | refine hK _ ?_); clear hK K))
  refine KW.less [0, 1, 5, 6, 7] ?_
  simp only [nrm, lk, Nat.reduceBEq, cond_true, cond_false]
  refine kw_block ?_
  refine kw_loop (fun m L wr => ∃ (k at' : Nat) (v : Value) (xs : List Value) (ls : List (List UInt8)), k ≤ n' ∧ m = n' - k ∧ at' ≤ n ∧ Hid (ls.flatten = b.take at') ∧ Hid (ls.length = k) ∧ PsX w xs ls ∧ wr.ownsRow w.heap.size 26 1 v k xs ∧ Below w.heap.size w wr ∧
    L = [(0, .slice A n c), (1, .slice A' n' c'), (5, v), (6, .int .i64 (at' : Int)), (7, .int .i64 (k : Int))]) ⟨0, 0, _, [], [], by omega, rfl, by omega, rfl, rfl, PsX.nil w, World.ownsRow_nil w1 _ _ _, hb1, rfl⟩ ?_
  rintro m L wr ⟨k, at', v, xs, ls, hk, rfl, hat, hfl, hlen, hP, hown, hb, rfl⟩
  clear hb1 w1
  have hsz := hb.size
  obtain ⟨A3, c3, rfl, p1, p2, p3, _⟩ := own_slice hown
  by_cases hlt : k < n'
  · have hk1 : (k : Int) < n' := by omega
    have hk0 : (0 : Int) ≤ k := by omega
    obtain ⟨b', o', u, rfl, hcell, _, hu⟩ := Vs.next hA' hlt
    obtain ⟨z, hz, hzb⟩ : ∃ z, u = .int .i64 z ∧ Hid (-9223372036854775808 ≤ z ∧ z ≤ 9223372036854775807) := by
      have h := hu.out
      rw [List.getElem?_map] at h
      obtain ⟨z, hz, e⟩ := Option.map_eq_some_iff.1 h
      exact ⟨z, e.symm, HZ.out z (List.mem_of_getElem? hz)⟩
    subst hz
    have hcell' := Keeps.of_below hb _ _ hcell
    clear hcell hu
    have a0 : (0 : Int) ≤ at' := by omega
    have a1 : (at' : Int) ≤ n := by omega
    have e1 : IntKind.i64.wrap ((n : Int) - at') = n - at' := IntWalk.i64_in _ (by omega)
    have e2 : IntKind.i64.wrap ((n : Int) - at' + 1) = n - at' + 1 := IntWalk.i64_in _ (by omega)
    repeat (first | refine kw_seq ?_ | refine kw_block ?_ | refine kw_skip ?_ | refine kw_region ?_ | refine kl_nil ?_ | refine kq_then ?_ | refine kq_block ?_ | refine kw_exit ?_ | refine kq_then_exit ?_ | refine kq_block_here rfl ?_ | refine kq_block_far rfl ?_ | refine kq_again_exit ?_ | refine kw_ret ?_ | refine kq_then_ret ?_ | refine kq_block_ret ?_ | refine kq_again_ret ?_ | refine kw_ift rfl ?_ | refine kw_iff rfl ?_ | refine kl_ung rfl rfl ?_ | refine kl_skipg rfl rfl rfl rfl ?_ | refine kl_skipg0 rfl rfl rfl ?_ | (first | refine kl_move rfl rfl (.inl rfl) rfl rfl ?_ | refine kl_move rfl rfl (.inr rfl) rfl rfl ?_ | refine kl_const rfl rfl (.inl rfl) rfl ?_ | refine kl_const rfl rfl (.inr rfl) rfl ?_) | ((first | refine kl_step rfl rfl rfl fun K hK => ?_ | refine kl_step0 rfl rfl rfl fun K hK => ?_); go_simp; (try go_bits); (first | refine hK _ _ ?_ | refine hK _ ?_); clear hK K))
    refine kl_call rfl rfl rfl Try.func9 rfl (by kernel_rfl) rfl ?_
    refine Calls.mono (within_any z (n - at' + 1) _ _ (by show (n : Int) - at' + 1 = _; omega) (by omega) (by omega)) ?_
    rintro e _ ⟨rfl, rfl⟩
    refine ⟨_, rfl, ?_⟩
    have hj := within_lt z (n - at' + 1) (by omega)
    obtain ⟨j, hjE⟩ : ∃ j, within z (n - at' + 1) = j := ⟨_, rfl⟩
    rw [hjE] at hj ⊢
    clear hjE hzb hcell' e1 e2
    have j0 : (0 : Int) ≤ j := by omega
    obtain ⟨q, hq⟩ : ∃ q, at' + j = q := ⟨_, rfl⟩
    have hqn : q ≤ n := by omega
    have haq : at' ≤ q := by omega
    have hqj : q - at' = j := by omega
    have j1 : (q : Int) ≤ n := by omega
    have j2 : (at' : Int) ≤ q := by omega
    have j3 : (q : Int) ≤ c := by omega
    have j4 : (at' : Int) ≤ c := by omega
    have s1 : IntKind.i64.wrap ((at' : Int) + j) = q := by rw [IntWalk.i64_in _ (by omega)]; omega
    have s2 : (at' : Int) + j = q := by omega
    have hmid := hA.mid_ (j := at') (k := q) (cap := c) haq hqn hnc
    rw [hqj] at hmid
    have HQ := Lib.hid hq
    clear hq
    repeat (first | refine kw_seq ?_ | refine kw_block ?_ | refine kw_skip ?_ | refine kw_region ?_ | refine kl_nil ?_ | refine kq_then ?_ | refine kq_block ?_ | refine kw_exit ?_ | refine kq_then_exit ?_ | refine kq_block_here rfl ?_ | refine kq_block_far rfl ?_ | refine kq_again_exit ?_ | refine kw_ret ?_ | refine kq_then_ret ?_ | refine kq_block_ret ?_ | refine kq_again_ret ?_ | refine kw_ift rfl ?_ | refine kw_iff rfl ?_ | refine kl_ung rfl rfl ?_ | refine kl_skipg rfl rfl rfl rfl ?_ | refine kl_skipg0 rfl rfl rfl ?_ | (first | refine kl_move rfl rfl (.inl rfl) rfl rfl ?_ | refine kl_move rfl rfl (.inr rfl) rfl rfl ?_ | refine kl_const rfl rfl (.inl rfl) rfl ?_ | refine kl_const rfl rfl (.inr rfl) rfl ?_) | ((first | refine kl_step rfl rfl rfl fun K hK => ?_ | refine kl_step0 rfl rfl rfl fun K hK => ?_); go_simp; (try go_bits); (first | refine hK _ _ ?_ | refine hK _ ?_); clear hK K))
    refine kl_appendV 22 26 (.slice none 0 0) 24 Try.underlying22 sliceInfo rfl w.heap.size _ k xs (hown.alloc _) _ 1 1 [.slice (if c = at' then A else A.map (·.add at')) j (c - at')] ?hr (by intro u hu; simp at hu; subst hu; rfl) (by omega) (by omega) (by simp; omega) rfl rfl rfl rfl rfl rfl ?_
    case hr => exact Vs.one (cell_new' wr _ _ 0 rfl rfl)
    intro v' w' hown' hg' _
    have hb' := below_append (hb.alloc hsz _) hg' (hown.alloc _) (by simp; omega)
    repeat (first | refine kw_seq ?_ | refine kw_block ?_ | refine kw_skip ?_ | refine kw_region ?_ | refine kl_nil ?_ | refine kq_then ?_ | refine kq_block ?_ | refine kw_exit ?_ | refine kq_then_exit ?_ | refine kq_block_here rfl ?_ | refine kq_block_far rfl ?_ | refine kq_again_exit ?_ | refine kw_ret ?_ | refine kq_then_ret ?_ | refine kq_block_ret ?_ | refine kq_again_ret ?_ | refine kw_ift rfl ?_ | refine kw_iff rfl ?_ | refine kl_ung rfl rfl ?_ | refine kl_skipg rfl rfl rfl rfl ?_ | refine kl_skipg0 rfl rfl rfl ?_ | (first | refine kl_move rfl rfl (.inl rfl) rfl rfl ?_ | refine kl_move rfl rfl (.inr rfl) rfl rfl ?_ | refine kl_const rfl rfl (.inl rfl) rfl ?_ | refine kl_const rfl rfl (.inr rfl) rfl ?_) | ((first | refine kl_step rfl rfl rfl fun K hK => ?_ | refine kl_step0 rfl rfl rfl fun K hK => ?_); go_simp; (try go_bits); (first | refine hK _ _ ?_ | refine hK _ ?_); clear hK K))
    refine kq_again (n' - (k + 1)) [0, 1, 5, 6, 7] (by omega) ?_
    simp only [nrm, lk, Nat.reduceBEq, cond_true, cond_false]
    refine ⟨k + 1, q, v', _, ls ++ [(b.take q).drop at'], by omega, rfl, hqn, ?_, ?_, hP.snoc hmid (by omega) (by omega), hown', hb', by congr 1⟩
    · show _ = _
      rw [List.flatten_append, hfl.out]
      simp only [List.flatten_cons, List.flatten_nil, List.append_nil]
      rw [← HQ.out]
      exact parts_step b at' j
    · show _ = _
      rw [List.length_append, hlen.out]; rfl
  · obtain rfl : k = n' := by omega
    have a0 : (0 : Int) ≤ at' := by omega
    have a1 : (at' : Int) ≤ n := by omega
    have a2 : (at' : Int) ≤ c := by omega
    have a3 : (n : Int) ≤ c := by omega
    have hrest := hA.from_ (k := at') hat hnc
    repeat (first | refine kw_seq ?_ | refine kw_block ?_ | refine kw_skip ?_ | refine kw_region ?_ | refine kl_nil ?_ | refine kq_then ?_ | refine kq_block ?_ | refine kw_exit ?_ | refine kq_then_exit ?_ | refine kq_block_here rfl ?_ | refine kq_block_far rfl ?_ | refine kq_again_exit ?_ | refine kw_ret ?_ | refine kq_then_ret ?_ | refine kq_block_ret ?_ | refine kq_again_ret ?_ | refine kw_ift rfl ?_ | refine kw_iff rfl ?_ | refine kl_ung rfl rfl ?_ | refine kl_skipg rfl rfl rfl rfl ?_ | refine kl_skipg0 rfl rfl rfl ?_ | (first | refine kl_move rfl rfl (.inl rfl) rfl rfl ?_ | refine kl_move rfl rfl (.inr rfl) rfl rfl ?_ | refine kl_const rfl rfl (.inl rfl) rfl ?_ | refine kl_const rfl rfl (.inr rfl) rfl ?_) | ((first | refine kl_step rfl rfl rfl fun K hK => ?_ | refine kl_step0 rfl rfl rfl fun K hK => ?_); go_simp; (try go_bits); (first | refine hK _ _ ?_ | refine hK _ ?_); clear hK K))
    refine kl_appendV 22 26 (.slice none 0 0) 24 Try.underlying22 sliceInfo rfl w.heap.size _ k xs (hown.alloc _) _ 1 1 [.slice (if c = at' then A else A.map (·.add at')) (n - at') (c - at')] ?hr2 (by intro u hu; simp at hu; subst hu; rfl) (by omega) (by omega) (by simp; omega) rfl rfl rfl rfl rfl rfl ?_
    case hr2 => exact Vs.one (cell_new' wr _ _ 0 rfl rfl)
    intro v' w' hown' hg' _
    have hb' := below_append (hb.alloc hsz _) hg' (hown.alloc _) (by simp; omega)
    obtain ⟨A4, c4, rfl, o1, o2, o3, _⟩ := own_slice hown'
    have hP' := hP.snoc (c := c - at') hrest (by omega) (by omega)
    have hPs : Ps w' A4 (k + 1) (ls ++ [b.drop at']) := (hP'.keep (.of_below hb')).ps o3
    have hflat : Hid ((ls ++ [b.drop at']).flatten = b) := by
      show _ = _
      rw [List.flatten_append, hfl.out]
      simp
    have hBb := hA.keep (.of_below hb')
    have HN' := HN.out
    have hsum : (ls ++ [b.drop at']).flatten.length ≤ 1099511627776 := by rw [hflat.out, HN']; omega
    have HSUM := Lib.hid hsum
    have he := fun W => eqSame W b
    have he0 := fun W => eqSame W []
    clear hP hP' hrest hsum HN' hown hown' hg' p1 p2 p3 o3
    repeat (first | refine kw_seq ?_ | refine kw_block ?_ | refine kw_skip ?_ | refine kw_region ?_ | refine kl_nil ?_ | refine kq_then ?_ | refine kq_block ?_ | refine kw_exit ?_ | refine kq_then_exit ?_ | refine kq_block_here rfl ?_ | refine kq_block_far rfl ?_ | refine kq_again_exit ?_ | refine kw_ret ?_ | refine kq_then_ret ?_ | refine kq_block_ret ?_ | refine kq_again_ret ?_ | refine kw_ift rfl ?_ | refine kw_iff rfl ?_ | refine kl_ung rfl rfl ?_ | refine kl_skipg rfl rfl rfl rfl ?_ | refine kl_skipg0 rfl rfl rfl ?_ | (first | refine kl_move rfl rfl (.inl rfl) rfl rfl ?_ | refine kl_move rfl rfl (.inr rfl) rfl rfl ?_ | refine kl_const rfl rfl (.inl rfl) rfl ?_ | refine kl_const rfl rfl (.inr rfl) rfl ?_) | ((first | refine kl_step rfl rfl rfl fun K hK => ?_ | refine kl_step0 rfl rfl rfl fun K hK => ?_); go_simp; (try go_bits); (first | refine hK _ _ ?_ | refine hK _ ?_); clear hK K))
    refine kl_call rfl rfl rfl Try.func10 rfl (by kernel_rfl) rfl ?_
    refine Calls.mono (shaSum_any _ _ _ (ls ++ [b.drop at']) _ hPs (by omega) HSUM.out) ?_
    rw [hflat.out]
    rintro e w2 ⟨rfl, hbw2⟩
    refine ⟨_, rfl, ?_⟩
    have hBb := hBb.keep (.of_below hbw2)
    have hbb := below_then hb' hbw2 hb'.size
    repeat (first | refine kw_seq ?_ | refine kw_block ?_ | refine kw_skip ?_ | refine kw_region ?_ | refine kl_nil ?_ | refine kq_then ?_ | refine kq_block ?_ | refine kw_exit ?_ | refine kq_then_exit ?_ | refine kq_block_here rfl ?_ | refine kq_block_far rfl ?_ | refine kq_again_exit ?_ | refine kw_ret ?_ | refine kq_then_ret ?_ | refine kq_block_ret ?_ | refine kq_again_ret ?_ | refine kw_ift rfl ?_ | refine kw_iff rfl ?_ | refine kl_ung rfl rfl ?_ | refine kl_skipg rfl rfl rfl rfl ?_ | refine kl_skipg0 rfl rfl rfl ?_ | (first | refine kl_move rfl rfl (.inl rfl) rfl rfl ?_ | refine kl_move rfl rfl (.inr rfl) rfl rfl ?_ | refine kl_const rfl rfl (.inl rfl) rfl ?_ | refine kl_const rfl rfl (.inr rfl) rfl ?_) | ((first | refine kl_step rfl rfl rfl fun K hK => ?_ | refine kl_step0 rfl rfl rfl fun K hK => ?_); go_simp; (try go_bits); (first | refine hK _ _ ?_ | refine hK _ ?_); clear hK K))
    refine kl_call rfl rfl rfl Try.func11 rfl (by kernel_rfl) rfl ?_
    refine Calls.mono (refSha_any _ _ _ b _ hBb (by omega)) ?_
    rintro e w3 ⟨rfl, hbw3⟩
    refine ⟨_, rfl, ?_⟩
    have hbb := below_then hbb hbw3 hbb.size
    repeat (first | refine kw_seq ?_ | refine kw_block ?_ | refine kw_skip ?_ | refine kw_region ?_ | refine kl_nil ?_ | refine kq_then ?_ | refine kq_block ?_ | refine kw_exit ?_ | refine kq_then_exit ?_ | refine kq_block_here rfl ?_ | refine kq_block_far rfl ?_ | refine kq_again_exit ?_ | refine kw_ret ?_ | refine kq_then_ret ?_ | refine kq_block_ret ?_ | refine kq_again_ret ?_ | refine kw_ift rfl ?_ | refine kw_iff rfl ?_ | refine kl_ung rfl rfl ?_ | refine kl_skipg rfl rfl rfl rfl ?_ | refine kl_skipg0 rfl rfl rfl ?_ | (first | refine kl_move rfl rfl (.inl rfl) rfl rfl ?_ | refine kl_move rfl rfl (.inr rfl) rfl rfl ?_ | refine kl_const rfl rfl (.inl rfl) rfl ?_ | refine kl_const rfl rfl (.inr rfl) rfl ?_) | ((first | refine kl_step rfl rfl rfl fun K hK => ?_ | refine kl_step0 rfl rfl rfl fun K hK => ?_); go_simp; (try go_bits); (first | refine hK _ _ ?_ | refine hK _ ?_); clear hK K))
    refine kl_call rfl rfl rfl Try.func10 rfl (by kernel_rfl) rfl ?_
    refine Calls.mono (shaSum_any none 0 0 [] _ ⟨rfl, [], Vs.nil _ _, fun i h => absurd h (by simp)⟩ (by omega) (by simp)) ?_
    rintro e w4 ⟨rfl, hbw4⟩
    refine ⟨_, rfl, ?_⟩
    have hbb := below_then hbb hbw4 hbb.size
    repeat (first | refine kw_seq ?_ | refine kw_block ?_ | refine kw_skip ?_ | refine kw_region ?_ | refine kl_nil ?_ | refine kq_then ?_ | refine kq_block ?_ | refine kw_exit ?_ | refine kq_then_exit ?_ | refine kq_block_here rfl ?_ | refine kq_block_far rfl ?_ | refine kq_again_exit ?_ | refine kw_ret ?_ | refine kq_then_ret ?_ | refine kq_block_ret ?_ | refine kq_again_ret ?_ | refine kw_ift rfl ?_ | refine kw_iff rfl ?_ | refine kl_ung rfl rfl ?_ | refine kl_skipg rfl rfl rfl rfl ?_ | refine kl_skipg0 rfl rfl rfl ?_ | (first | refine kl_move rfl rfl (.inl rfl) rfl rfl ?_ | refine kl_move rfl rfl (.inr rfl) rfl rfl ?_ | refine kl_const rfl rfl (.inl rfl) rfl ?_ | refine kl_const rfl rfl (.inr rfl) rfl ?_) | ((first | refine kl_step rfl rfl rfl fun K hK => ?_ | refine kl_step0 rfl rfl rfl fun K hK => ?_); go_simp; (try go_bits); (first | refine hK _ _ ?_ | refine hK _ ?_); clear hK K))
    refine kl_call rfl rfl rfl Try.func11 rfl (by kernel_rfl) rfl ?_
    refine Calls.mono (refSha_any none 0 0 [] _ (Bs.nil _ _) (by omega)) ?_
    rintro e w5 ⟨rfl, hbw5⟩
    refine ⟨_, rfl, ?_⟩
    have hbb := below_then hbb hbw5 hbb.size
    repeat (first | refine kw_seq ?_ | refine kw_block ?_ | refine kw_skip ?_ | refine kw_region ?_ | refine kl_nil ?_ | refine kq_then ?_ | refine kq_block ?_ | refine kw_exit ?_ | refine kq_then_exit ?_ | refine kq_block_here rfl ?_ | refine kq_block_far rfl ?_ | refine kq_again_exit ?_ | refine kw_ret ?_ | refine kq_then_ret ?_ | refine kq_block_ret ?_ | refine kq_again_ret ?_ | refine kw_ift rfl ?_ | refine kw_iff rfl ?_ | refine kl_ung rfl rfl ?_ | refine kl_skipg rfl rfl rfl rfl ?_ | refine kl_skipg0 rfl rfl rfl ?_ | (first | refine kl_move rfl rfl (.inl rfl) rfl rfl ?_ | refine kl_move rfl rfl (.inr rfl) rfl rfl ?_ | refine kl_const rfl rfl (.inl rfl) rfl ?_ | refine kl_const rfl rfl (.inr rfl) rfl ?_) | ((first | refine kl_step rfl rfl rfl fun K hK => ?_ | refine kl_step0 rfl rfl rfl fun K hK => ?_); go_simp; (try go_bits); (first | refine hK _ _ ?_ | refine hK _ ?_); clear hK K))
    refine kl_call rfl rfl rfl Try.func10 rfl (by kernel_rfl) rfl ?_
    refine Calls.mono (shaSum_any _ 2 2 [[], []] _ (Ps.lit2 _ rfl (Bs.nil _ _) (by omega) (by omega) (Bs.nil _ _) (by omega) (by omega)) (by omega) (by simp)) ?_
    rintro e w6 ⟨rfl, hbw6⟩
    refine ⟨_, rfl, ?_⟩
    have hbb := below_then (hbb.alloc hbb.size _) hbw6 (by have := hbb.size; simp; omega)
    repeat (first | refine kw_seq ?_ | refine kw_block ?_ | refine kw_skip ?_ | refine kw_region ?_ | refine kl_nil ?_ | refine kq_then ?_ | refine kq_block ?_ | refine kw_exit ?_ | refine kq_then_exit ?_ | refine kq_block_here rfl ?_ | refine kq_block_far rfl ?_ | refine kq_again_exit ?_ | refine kw_ret ?_ | refine kq_then_ret ?_ | refine kq_block_ret ?_ | refine kq_again_ret ?_ | refine kw_ift rfl ?_ | refine kw_iff rfl ?_ | refine kl_ung rfl rfl ?_ | refine kl_skipg rfl rfl rfl rfl ?_ | refine kl_skipg0 rfl rfl rfl ?_ | (first | refine kl_move rfl rfl (.inl rfl) rfl rfl ?_ | refine kl_move rfl rfl (.inr rfl) rfl rfl ?_ | refine kl_const rfl rfl (.inl rfl) rfl ?_ | refine kl_const rfl rfl (.inr rfl) rfl ?_) | ((first | refine kl_step rfl rfl rfl fun K hK => ?_ | refine kl_step0 rfl rfl rfl fun K hK => ?_); go_simp; (try go_bits); (first | refine hK _ _ ?_ | refine hK _ ?_); clear hK K))
    refine kl_call rfl rfl rfl Try.func11 rfl (by kernel_rfl) rfl ?_
    refine Calls.mono (refSha_any none 0 0 [] _ (Bs.nil _ _) (by omega)) ?_
    rintro e w7 ⟨rfl, hbw7⟩
    refine ⟨_, rfl, ?_⟩
    have hbb := below_then hbb hbw7 hbb.size
    repeat (first | refine kw_seq ?_ | refine kw_block ?_ | refine kw_skip ?_ | refine kw_region ?_ | refine kl_nil ?_ | refine kq_then ?_ | refine kq_block ?_ | refine kw_exit ?_ | refine kq_then_exit ?_ | refine kq_block_here rfl ?_ | refine kq_block_far rfl ?_ | refine kq_again_exit ?_ | refine kw_ret ?_ | refine kq_then_ret ?_ | refine kq_block_ret ?_ | refine kq_again_ret ?_ | refine kw_ift rfl ?_ | refine kw_iff rfl ?_ | refine kl_ung rfl rfl ?_ | refine kl_skipg rfl rfl rfl rfl ?_ | refine kl_skipg0 rfl rfl rfl ?_ | (first | refine kl_move rfl rfl (.inl rfl) rfl rfl ?_ | refine kl_move rfl rfl (.inr rfl) rfl rfl ?_ | refine kl_const rfl rfl (.inl rfl) rfl ?_ | refine kl_const rfl rfl (.inr rfl) rfl ?_) | ((first | refine kl_step rfl rfl rfl fun K hK => ?_ | refine kl_step0 rfl rfl rfl fun K hK => ?_); go_simp; (try go_bits); (first | refine hK _ _ ?_ | refine hK _ ?_); clear hK K))
    exact kq_ret1 rfl rfl ⟨rfl, hbb⟩
end Go.Proofs.Ytkjfejkikejnhaa
