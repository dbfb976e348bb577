/- RecordTorn: the walk. -/
import Derived.Test.YtblidiecahpekaaDuo
import Derived.Test.YtblidiecahpekaaRecTornP
import Derived.Test.YtblidiecahpekaaRecLoadR
set_option linter.unusedVariables false
set_option linter.unusedSimpArgs false
namespace Go.Proofs.Ytblidiecahpekaa
open Go.RowKit
attribute [local go_sem] ev_tmp ev_const ev_func ev_global lk_hit lk_miss uponK_value uponK_skip look_tmp look_const look_global look_func valP_value
theorem Ps.to_ {w : World} {A : Option Addr} {n k : Nat} {ls : List (List UInt8)} (h : Ps w A n ls) (hk : k ≤ n) : Ps w A k (ls.take k) := by
  obtain ⟨h1, xs, hv, hx⟩ := h
  refine ⟨by rw [List.length_take]; omega, xs.take k, hv.to_ hk, fun i hi => ?_⟩
  have hi' : i < k := by rw [List.length_take] at hi; omega
  obtain ⟨B, m, c, e, hb, h2, h3⟩ := hx i (by omega)
  exact ⟨B, m, c, by rw [List.getElem?_take, if_pos hi']; exact e, by rw [List.getElem_take]; exact hb, h2, h3⟩
theorem used_60 : ∀ l : List (List UInt8), (∀ x ∈ l, x.length ≤ 60) → usedP l ≤ 5 * l.length
  | [], _ => Nat.le_refl _
  | x :: l, h => by
    have h1 := h x (by simp)
    have h2 := used_60 l fun y hy => h y (by simp [hy])
    rw [usedP_cons, List.length_cons]
    unfold pagesN
    omega
structure Here (f : FlashSt) (l : List (List UInt8)) : Prop where
  live : Live f
  pack : Packed (readF f 3) l
  small : ∀ x ∈ l, x.length ≤ 60
theorem Here.next {f : FlashSt} {l : List (List UInt8)} (h : Here f l) {b : List UInt8} (hb : b.length ≤ 60) (hl : l.length < 8) : ∃ f', appendP f 3 b = (0, f') ∧ Here f' (l ++ [b]) := by
  have hu := used_60 l h.small
  obtain ⟨f', h1, h2, h3, _⟩ := append_packed f h.live 3 (by omega) l h.pack b (by omega) (by unfold pagesN; omega)
  exact ⟨f', h1, h2, h3, fun x hx => by
    rcases List.mem_append.1 hx with h' | h'
    · exact h.small x h'
    · simp at h'; subst h'; exact hb⟩
theorem Here.torn {f : FlashSt} {l : List (List UInt8)} (h : Here f l) (hl : l.length ≤ 8) (m : Nat) (hm : 0 < m) (mask b : List UInt8) (hb : b.length ≤ 100) :
    ∃ e f', appendP (stopF f (m : Int) mask) 3 b = (e, f') ∧ ((loadR (readF (startF f') 3)).1 = l ∧ e = 14 ∨ ∃ y, (loadR (readF (startF f') 3)).1 = l ++ [y]) := by
  have hu := used_60 l h.small
  exact torn_told f h.live m hm mask 3 (by omega) l h.pack b (by omega) (by unfold pagesN; omega)
set_option maxRecDepth 100000 in
set_option maxHeartbeats 4000000 in
theorem recordTorn_top (A : Option Addr) (n c : Nat) (ls : List (List UInt8)) (B : Option Addr) (m d : Nat) (b : List UInt8) (z : Int) (M : Option Addr) (k e : Nat) (mk : List UInt8) (w : World)
    (hA : Ps w A n ls) (hnc : n ≤ c) (hc : c ≤ 140737488351232) (hB : Bs w B m b) (hmd : m ≤ d) (hd : d ≤ 140737488351232) (_ : -9223372036854775808 ≤ z ∧ z ≤ 9223372036854775807) (hM : Bs w M k mk) (_ : k ≤ e) (_ : e ≤ 140737488351232) :
    Calls Try.prog 8 #[.slice A n c, .slice B m d, .int .i64 z, .slice M k e] w fun e w' => e = .returned (.bool true) ∧ Below w.heap.size w w' := by
  refine calls_kw Try.func8 rfl Try.ntmps8 rfl [(0, .slice A n c), (1, .slice B m d), (2, .int .i64 z), (3, .slice M k e)] rfl ?_
  repeat (first | refine kw_seq ?_ | refine kw_block ?_ | refine kw_skip ?_ | refine kw_region ?_ | refine kl_nil ?_ | refine kq_then ?_ | refine kq_block ?_ | refine kw_exit ?_ | refine kq_then_exit ?_ | refine kq_block_here rfl ?_ | refine kq_block_far rfl ?_ | refine kq_again_exit ?_ | refine kw_ret ?_ | refine kq_then_ret ?_ | refine kq_block_ret ?_ | refine kq_again_ret ?_ | refine kw_ift rfl ?_ | refine kw_iff rfl ?_ | refine kl_ung rfl rfl ?_ | refine kl_skipg rfl rfl rfl rfl ?_ | refine kl_skipg0 rfl rfl rfl ?_ | (first | refine kl_move rfl rfl (.inl rfl) rfl rfl ?_ | refine kl_move rfl rfl (.inr rfl) rfl rfl ?_ | refine kl_const rfl rfl (.inl rfl) rfl ?_ | refine kl_const rfl rfl (.inr rfl) rfl ?_) | ((first | refine kl_step rfl rfl rfl fun K hK => ?_ | refine kl_step0 rfl rfl rfl fun K hK => ?_); go_simp; (try go_bits); (first | refine hK _ _ ?_ | refine hK _ ?_); clear hK K))
  refine kl_call rfl rfl rfl Try.func10 rfl (by kernel_rfl) rfl ?_
  refine Calls.mono (known5_any w) ?_
  rintro e w0 ⟨rfl, hb0⟩
  refine ⟨_, rfl, ?_⟩
  have HLL := Lib.hid hA.len
  have HBL := Lib.hid hB.len
  by_cases hg1 : 8 < n
  · have t1 : decide ((8 : Int) < (n : Int)) = true := by rw [decide_eq_true_eq]; omega
    have t1n : decide (8 < n) = true := decide_eq_true hg1
    clear hg1
    repeat (first | refine kw_seq ?_ | refine kw_block ?_ | refine kw_skip ?_ | refine kw_region ?_ | refine kl_nil ?_ | refine kq_then ?_ | refine kq_block ?_ | refine kw_exit ?_ | refine kq_then_exit ?_ | refine kq_block_here rfl ?_ | refine kq_block_far rfl ?_ | refine kq_again_exit ?_ | refine kw_ret ?_ | refine kq_then_ret ?_ | refine kq_block_ret ?_ | refine kq_again_ret ?_ | refine kw_ift rfl ?_ | refine kw_iff rfl ?_ | refine kl_ung rfl rfl ?_ | refine kl_skipg rfl rfl rfl rfl ?_ | refine kl_skipg0 rfl rfl rfl ?_ | (first | refine kl_move rfl rfl (.inl rfl) rfl rfl ?_ | refine kl_move rfl rfl (.inr rfl) rfl rfl ?_ | refine kl_const rfl rfl (.inl rfl) rfl ?_ | refine kl_const rfl rfl (.inr rfl) rfl ?_) | ((first | refine kl_step rfl rfl rfl fun K hK => ?_ | refine kl_step0 rfl rfl rfl fun K hK => ?_); go_simp; (try go_bits); (first | refine hK _ _ ?_ | refine hK _ ?_); clear hK K))
    exact kq_ret1 rfl rfl ⟨rfl, hb0⟩
  have t1 : decide ((8 : Int) < (n : Int)) = false := by rw [decide_eq_false_iff_not]; omega
  have t1n : decide (8 < n) = false := decide_eq_false hg1
  by_cases hg2 : 100 < m
  · have t2 : decide ((100 : Int) < (m : Int)) = true := by rw [decide_eq_true_eq]; omega
    have t2n : decide (100 < m) = true := decide_eq_true hg2
    clear hg1 hg2
    repeat (first | refine kw_seq ?_ | refine kw_block ?_ | refine kw_skip ?_ | refine kw_region ?_ | refine kl_nil ?_ | refine kq_then ?_ | refine kq_block ?_ | refine kw_exit ?_ | refine kq_then_exit ?_ | refine kq_block_here rfl ?_ | refine kq_block_far rfl ?_ | refine kq_again_exit ?_ | refine kw_ret ?_ | refine kq_then_ret ?_ | refine kq_block_ret ?_ | refine kq_again_ret ?_ | refine kw_ift rfl ?_ | refine kw_iff rfl ?_ | refine kl_ung rfl rfl ?_ | refine kl_skipg rfl rfl rfl rfl ?_ | refine kl_skipg0 rfl rfl rfl ?_ | (first | refine kl_move rfl rfl (.inl rfl) rfl rfl ?_ | refine kl_move rfl rfl (.inr rfl) rfl rfl ?_ | refine kl_const rfl rfl (.inl rfl) rfl ?_ | refine kl_const rfl rfl (.inr rfl) rfl ?_) | ((first | refine kl_step rfl rfl rfl fun K hK => ?_ | refine kl_step0 rfl rfl rfl fun K hK => ?_); go_simp; (try go_bits); (first | refine hK _ _ ?_ | refine hK _ ?_); clear hK K))
    exact kq_ret1 rfl rfl ⟨rfl, hb0⟩
  have t2 : decide ((100 : Int) < (m : Int)) = false := by rw [decide_eq_false_iff_not]; omega
  have t2n : decide (100 < m) = false := decide_eq_false hg2
  by_cases hg3 : 20 < k
  · have t3 : decide ((20 : Int) < (k : Int)) = true := by rw [decide_eq_true_eq]; omega
    have t3n : decide (20 < k) = true := decide_eq_true hg3
    clear hg1 hg2 hg3
    repeat (first | refine kw_seq ?_ | refine kw_block ?_ | refine kw_skip ?_ | refine kw_region ?_ | refine kl_nil ?_ | refine kq_then ?_ | refine kq_block ?_ | refine kw_exit ?_ | refine kq_then_exit ?_ | refine kq_block_here rfl ?_ | refine kq_block_far rfl ?_ | refine kq_again_exit ?_ | refine kw_ret ?_ | refine kq_then_ret ?_ | refine kq_block_ret ?_ | refine kq_again_ret ?_ | refine kw_ift rfl ?_ | refine kw_iff rfl ?_ | refine kl_ung rfl rfl ?_ | refine kl_skipg rfl rfl rfl rfl ?_ | refine kl_skipg0 rfl rfl rfl ?_ | (first | refine kl_move rfl rfl (.inl rfl) rfl rfl ?_ | refine kl_move rfl rfl (.inr rfl) rfl rfl ?_ | refine kl_const rfl rfl (.inl rfl) rfl ?_ | refine kl_const rfl rfl (.inr rfl) rfl ?_) | ((first | refine kl_step rfl rfl rfl fun K hK => ?_ | refine kl_step0 rfl rfl rfl fun K hK => ?_); go_simp; (try go_bits); (first | refine hK _ _ ?_ | refine hK _ ?_); clear hK K))
    exact kq_ret1 rfl rfl ⟨rfl, hb0⟩
  have t3 : decide ((20 : Int) < (k : Int)) = false := by rw [decide_eq_false_iff_not]; omega
  have t3n : decide (20 < k) = false := decide_eq_false hg3
  have hn8 : n ≤ 8 := by omega
  have hm100 : m ≤ 100 := by omega
  have hk20 : k ≤ 20 := by omega
  clear hg1 hg2 hg3
  repeat (first | refine kw_seq ?_ | refine kw_block ?_ | refine kw_skip ?_ | refine kw_region ?_ | refine kl_nil ?_ | refine kq_then ?_ | refine kq_block ?_ | refine kw_exit ?_ | refine kq_then_exit ?_ | refine kq_block_here rfl ?_ | refine kq_block_far rfl ?_ | refine kq_again_exit ?_ | refine kw_ret ?_ | refine kq_then_ret ?_ | refine kq_block_ret ?_ | refine kq_again_ret ?_ | refine kw_ift rfl ?_ | refine kw_iff rfl ?_ | refine kl_ung rfl rfl ?_ | refine kl_skipg rfl rfl rfl rfl ?_ | refine kl_skipg0 rfl rfl rfl ?_ | (first | refine kl_move rfl rfl (.inl rfl) rfl rfl ?_ | refine kl_move rfl rfl (.inr rfl) rfl rfl ?_ | refine kl_const rfl rfl (.inl rfl) rfl ?_ | refine kl_const rfl rfl (.inr rfl) rfl ?_) | ((first | refine kl_step rfl rfl rfl fun K hK => ?_ | refine kl_step0 rfl rfl rfl fun K hK => ?_); go_simp; (try go_bits); (first | refine hK _ _ ?_ | refine hK _ ?_); clear hK K))
  refine kl_call rfl rfl rfl Try.func14 rfl (by kernel_rfl) rfl ?_
  refine Calls.mono (new_any w0) ?_
  rintro e w1 ⟨rfl, hf1, hb1⟩
  refine ⟨_, rfl, ?_⟩
  repeat (first | refine kw_seq ?_ | refine kw_block ?_ | refine kw_skip ?_ | refine kw_region ?_ | refine kl_nil ?_ | refine kq_then ?_ | refine kq_block ?_ | refine kw_exit ?_ | refine kq_then_exit ?_ | refine kq_block_here rfl ?_ | refine kq_block_far rfl ?_ | refine kq_again_exit ?_ | refine kw_ret ?_ | refine kq_then_ret ?_ | refine kq_block_ret ?_ | refine kq_again_ret ?_ | refine kw_ift rfl ?_ | refine kw_iff rfl ?_ | refine kl_ung rfl rfl ?_ | refine kl_skipg rfl rfl rfl rfl ?_ | refine kl_skipg0 rfl rfl rfl ?_ | (first | refine kl_move rfl rfl (.inl rfl) rfl rfl ?_ | refine kl_move rfl rfl (.inr rfl) rfl rfl ?_ | refine kl_const rfl rfl (.inl rfl) rfl ?_ | refine kl_const rfl rfl (.inr rfl) rfl ?_) | ((first | refine kl_step rfl rfl rfl fun K hK => ?_ | refine kl_step0 rfl rfl rfl fun K hK => ?_); go_simp; (try go_bits); (first | refine hK _ _ ?_ | refine hK _ ?_); clear hK K))
  refine kl_call rfl rfl rfl Try.func21 rfl (by kernel_rfl) rfl ?_
  refine Calls.mono (refNew_any w1) ?_
  rintro e w2 ⟨rfl, hf2, hb2⟩
  refine ⟨_, rfl, ?_⟩
  have hD0 := Duo.start w w0 w1 w2 hb0 hf1 hb1 hf2 hb2
  obtain ⟨g, hg⟩ : ∃ g, w0.heap.size = g := ⟨_, rfl⟩
  obtain ⟨x, hx⟩ : ∃ x, w1.heap.size = x := ⟨_, rfl⟩
  rw [hg, hx] at hD0 ⊢
  clear hf1 hb1 hf2 hb2 hg hx t1 t1n t2 t2n t3 t3n hb0
  repeat (first | refine kw_seq ?_ | refine kw_skip ?_ | refine kw_region ?_ | refine kl_nil ?_ | refine kq_then ?_ | refine kq_block ?_ | refine kw_exit ?_ | refine kq_then_exit ?_ | refine kq_block_here rfl ?_ | refine kq_block_far rfl ?_ | refine kq_again_exit ?_ | refine kw_ret ?_ | refine kq_then_ret ?_ | refine kq_block_ret ?_ | refine kq_again_ret ?_ | refine kw_ift rfl ?_ | refine kw_iff rfl ?_ | refine kl_ung rfl rfl ?_ | refine kl_skipg rfl rfl rfl rfl ?_ | refine kl_skipg0 rfl rfl rfl ?_ | (first | refine kl_move rfl rfl (.inl rfl) rfl rfl ?_ | refine kl_move rfl rfl (.inr rfl) rfl rfl ?_ | refine kl_const rfl rfl (.inl rfl) rfl ?_ | refine kl_const rfl rfl (.inr rfl) rfl ?_) | ((first | refine kl_step rfl rfl rfl fun K hK => ?_ | refine kl_step0 rfl rfl rfl fun K hK => ?_); go_simp; (try go_bits); (first | refine hK _ _ ?_ | refine hK _ ?_); clear hK K))
  refine KW.less [0, 1, 2, 3, 9, 10, 11] ?_
  simp only [nrm, lk, Nat.reduceBEq, cond_true, cond_false]
  refine kw_block ?_
  refine kw_loop (fun mm L W => ∃ i f, i ≤ n ∧ mm = n - i ∧ Hid (Duo w W g x f f) ∧ Hid (Here f (ls.take i)) ∧ L = [(0, .slice A n c), (1, .slice B m d), (2, .int .i64 z), (3, .slice M k e), (9, .pointer (some ⟨g, 0, none⟩)), (10, .pointer (some ⟨x, 0, none⟩)), (11, .int .i64 (i : Int))]) ⟨0, newF, by omega, rfl, hD0, ⟨live_new, packed_new 3 (by omega), by simp⟩, rfl⟩ ?_
  clear hD0
  rintro mm L W ⟨i, f, hi, rfl, hD, hH, rfl⟩
  by_cases hlt : i < n
  case pos =>
    have t1 : decide ((i : Int) < (n : Int)) = true := by rw [decide_eq_true_eq]; omega
    have t1n : decide (i < n) = true := decide_eq_true hlt
    have u0 : (0 : Int) ≤ i := by omega
    have u1 : (i : Int) < n := by omega
    obtain ⟨bA, oA, Bi, mi, ci, li, rfl, hcell, hBi, hmi, hci, hx1, hx2⟩ := hA.next hlt
    have hlen := hBi.len
    have r1 := hD.out.keeps _ _ hcell
    have hBW := Lib.hid (hBi.keep hD.out.keeps)
    by_cases h60 : 60 < mi
    · have t2 : decide ((60 : Int) < (mi : Int)) = true := by rw [decide_eq_true_eq]; omega
      have t2n : decide (60 < mi) = true := decide_eq_true h60
      clear hcell h60 hlen
      repeat (first | refine kw_seq ?_ | refine kw_block ?_ | refine kw_skip ?_ | refine kw_region ?_ | refine kl_nil ?_ | refine kq_then ?_ | refine kq_block ?_ | refine kw_exit ?_ | refine kq_then_exit ?_ | refine kq_block_here rfl ?_ | refine kq_block_far rfl ?_ | refine kq_again_exit ?_ | refine kw_ret ?_ | refine kq_then_ret ?_ | refine kq_block_ret ?_ | refine kq_again_ret ?_ | refine kw_ift rfl ?_ | refine kw_iff rfl ?_ | refine kl_ung rfl rfl ?_ | refine kl_skipg rfl rfl rfl rfl ?_ | refine kl_skipg0 rfl rfl rfl ?_ | (first | refine kl_move rfl rfl (.inl rfl) rfl rfl ?_ | refine kl_move rfl rfl (.inr rfl) rfl rfl ?_ | refine kl_const rfl rfl (.inl rfl) rfl ?_ | refine kl_const rfl rfl (.inr rfl) rfl ?_) | ((first | refine kl_step rfl rfl rfl fun K hK => ?_ | refine kl_step0 rfl rfl rfl fun K hK => ?_); go_simp; (try go_bits); (first | refine hK _ _ ?_ | refine hK _ ?_); clear hK K))
      exact kq_ret1 rfl rfl ⟨rfl, hD.out.bel⟩
    have t2 : decide ((60 : Int) < (mi : Int)) = false := by rw [decide_eq_false_iff_not]; omega
    have t2n : decide (60 < mi) = false := decide_eq_false h60
    have hex := hH.out.next (b := li) (by omega) (by rw [List.length_take, HLL.out]; omega)
    obtain ⟨f2, ha, hH2⟩ := hex
    rw [← hx1.out] at hH2
    have HE := Lib.hid ha
    have HH2 := Lib.hid hH2
    obtain ⟨i1, hi1⟩ : ∃ i1, i + 1 = i1 := ⟨_, rfl⟩
    rw [hi1] at HH2
    have k1 : (i : Int) + 1 = (i1 : Int) := by omega
    have k2 : (0 : Int) ≤ i1 := by omega
    have k3 : (i1 : Int) ≤ 64 := by omega
    have HI := Lib.hid (And.intro hi1 hlt)
    have HC := Lib.hid hcell
    clear hlt hi1 ha hH2 h60 hcell hi hlen
    repeat (first | refine kw_seq ?_ | refine kw_block ?_ | refine kw_region ?_ | refine kl_nil ?_ | refine kq_then ?_ | refine kw_ift rfl ?_ | refine kw_iff rfl ?_ | refine kw_skip ?_ | (first | refine kl_move rfl rfl (.inl rfl) rfl rfl ?_ | refine kl_move rfl rfl (.inr rfl) rfl rfl ?_ | refine kl_const rfl rfl (.inl rfl) rfl ?_ | refine kl_const rfl rfl (.inr rfl) rfl ?_) | ((first | refine kl_step rfl rfl rfl fun K hK => ?_ | refine kl_step0 rfl rfl rfl fun K hK => ?_); go_simp; (try go_bits); (first | refine hK _ _ ?_ | refine hK _ ?_); clear hK K))
    refine kl_call rfl rfl rfl Try.func15 rfl (by kernel_rfl) rfl ?_
    refine Calls.mono (append_any (NeQ g x) g neq_g f 3 Bi mi ci li W hD.out.fs (by omega) hBW.out hmi hci) ?_
    rintro e w4 ⟨rfl, hf4, hg4⟩
    refine ⟨_, rfl, ?_⟩
    have hD4 := Lib.hid (hD.out.fst hf4 hg4)
    rw [HE.out] at hD4 ⊢
    dsimp only at hD4 ⊢
    have r4 := hD4.out.keeps _ _ HC.out
    have hB4 := Lib.hid (hBi.keep hD4.out.keeps)
    clear r1 hBW hf4 hg4
    repeat (first | refine kw_seq ?_ | refine kw_skip ?_ | refine kw_region ?_ | refine kl_nil ?_ | refine kq_then ?_ | refine kq_block ?_ | refine kw_exit ?_ | refine kq_then_exit ?_ | refine kq_block_here rfl ?_ | refine kq_block_far rfl ?_ | refine kq_again_exit ?_ | refine kw_ret ?_ | refine kq_then_ret ?_ | refine kq_block_ret ?_ | refine kq_again_ret ?_ | refine kw_ift rfl ?_ | refine kw_iff rfl ?_ | refine kl_ung rfl rfl ?_ | refine kl_skipg rfl rfl rfl rfl ?_ | refine kl_skipg0 rfl rfl rfl ?_ | (first | refine kl_move rfl rfl (.inl rfl) rfl rfl ?_ | refine kl_move rfl rfl (.inr rfl) rfl rfl ?_ | refine kl_const rfl rfl (.inl rfl) rfl ?_ | refine kl_const rfl rfl (.inr rfl) rfl ?_) | ((first | refine kl_step rfl rfl rfl fun K hK => ?_ | refine kl_step0 rfl rfl rfl fun K hK => ?_); go_simp; (try go_bits); (first | refine hK _ _ ?_ | refine hK _ ?_); clear hK K))
    refine kl_call rfl rfl rfl Try.func22 rfl (by kernel_rfl) rfl ?_
    refine Calls.mono (appendR_any (NeQ g x) x neq_x f 3 Bi mi ci li w4 hD4.out.rf (by omega) hB4.out hmi hci) ?_
    rintro e w5 ⟨rfl, hf5, hg5⟩
    refine ⟨_, rfl, ?_⟩
    have hD5 := Lib.hid (hD4.out.snd hf5 hg5)
    rw [HE.out] at hD5 ⊢
    dsimp only at hD5 ⊢
    clear r4 hf5 hg5
    repeat (first | refine kw_seq ?_ | refine kw_block ?_ | refine kw_region ?_ | refine kl_nil ?_ | refine kq_then ?_ | refine kq_block ?_ | refine kw_iff rfl ?_ | refine kw_skip ?_ | refine kl_ung rfl rfl ?_ | (first | refine kl_move rfl rfl (.inl rfl) rfl rfl ?_ | refine kl_move rfl rfl (.inr rfl) rfl rfl ?_ | refine kl_const rfl rfl (.inl rfl) rfl ?_ | refine kl_const rfl rfl (.inr rfl) rfl ?_) | ((first | refine kl_step rfl rfl rfl fun K hK => ?_ | refine kl_step0 rfl rfl rfl fun K hK => ?_); go_simp; (try go_bits); (first | refine hK _ _ ?_ | refine hK _ ?_); clear hK K))
    refine kq_again (n - i1) [0, 1, 2, 3, 9, 10, 11] (by have := HI.out; omega) ?_
    exact ⟨i1, f2, by have := HI.out; omega, rfl, hD5, HH2, rfl⟩
  obtain rfl : i = n := by omega
  have t1 : decide ((i : Int) < (i : Int)) = false := by simp
  have t1n : decide (i < i) = false := by simp
  have hH' : Here f ls := by have := hH.out; rwa [List.take_of_length_le (by rw [HLL.out]; exact Nat.le_refl _)] at this
  have hk := within_lt z 9 (by omega)
  obtain ⟨q, hq⟩ : ∃ q, within z 9 = q := ⟨_, rfl⟩
  rw [hq] at hk
  obtain ⟨r, hr⟩ : ∃ r, 1 + q = r := ⟨_, rfl⟩
  have j1 : (1 : Int) + (q : Int) = (r : Int) := by omega
  have j2 : (0 : Int) ≤ r := by omega
  have j3 : (r : Int) ≤ 9 := by omega
  have hr0 : 0 < r := by omega
  have HQ := Lib.hid hq
  have hex := hH'.torn (by rw [HLL.out]; exact hn8) r hr0 mk b (by rw [HBL.out]; exact hm100)
  obtain ⟨eA, f3, hap, htold⟩ := hex
  have HAP := Lib.hid hap
  have HT := Lib.hid htold
  clear hlt hi hH hH' hq hr hap htold hk
  repeat (first | refine kw_seq ?_ | refine kw_skip ?_ | refine kw_region ?_ | refine kl_nil ?_ | refine kq_then ?_ | refine kq_block ?_ | refine kw_exit ?_ | refine kq_then_exit ?_ | refine kq_block_here rfl ?_ | refine kq_block_far rfl ?_ | refine kq_again_exit ?_ | refine kw_ret ?_ | refine kq_then_ret ?_ | refine kq_block_ret ?_ | refine kq_again_ret ?_ | refine kw_ift rfl ?_ | refine kw_iff rfl ?_ | refine kl_ung rfl rfl ?_ | refine kl_skipg rfl rfl rfl rfl ?_ | refine kl_skipg0 rfl rfl rfl ?_ | (first | refine kl_move rfl rfl (.inl rfl) rfl rfl ?_ | refine kl_move rfl rfl (.inr rfl) rfl rfl ?_ | refine kl_const rfl rfl (.inl rfl) rfl ?_ | refine kl_const rfl rfl (.inr rfl) rfl ?_) | ((first | refine kl_step rfl rfl rfl fun K hK => ?_ | refine kl_step0 rfl rfl rfl fun K hK => ?_); go_simp; (try go_bits); (first | refine hK _ _ ?_ | refine hK _ ?_); clear hK K))
  refine kw_region_f (fun _ => True) [true, true, true, true, false, true, true, false] (by kernel_rfl) (by kernel_rfl) trivial ?_
  have hDd := Lib.hid (hD.out.next ((Below.refl _ _).drew))
  clear hD
  generalize W.drew = W1 at hDd ⊢
  repeat (first | refine kf_nil ?_ | refine kf_ung rfl rfl ?_ | refine kf_skipg rfl rfl rfl rfl ?_ | (first | refine kf_move rfl rfl (.inl rfl) rfl rfl ?_ | refine kf_move rfl rfl (.inr rfl) rfl rfl ?_ | refine kf_const rfl rfl (.inl rfl) rfl ?_ | refine kf_const rfl rfl (.inr rfl) rfl ?_) | (refine kf_val rfl rfl rfl ?_; apply Exists.intro; refine And.intro (fun W hW N hN => ?_) ?_; · (go_simp; (try go_bits); exact hN)))
  refine kf_ch ?_
  refine kl_call rfl rfl rfl Try.func11 rfl (by kernel_rfl) rfl ?_
  refine Calls.mono (within_any z 9 9 _ rfl (by omega) (by omega)) ?_
  rintro e _ ⟨rfl, rfl⟩
  rw [HQ.out]
  refine ⟨_, rfl, ?_⟩
  refine kl_nil ?_
  refine kq_f trivial ?_
  repeat (first | refine kf_nil ?_ | refine kf_ung rfl rfl ?_ | refine kf_skipg rfl rfl rfl rfl ?_ | (first | refine kf_move rfl rfl (.inl rfl) rfl rfl ?_ | refine kf_move rfl rfl (.inr rfl) rfl rfl ?_ | refine kf_const rfl rfl (.inl rfl) rfl ?_ | refine kf_const rfl rfl (.inr rfl) rfl ?_) | (refine kf_val rfl rfl rfl ?_; apply Exists.intro; refine And.intro (fun W hW N hN => ?_) ?_; · (go_simp; (try go_bits); exact hN)))
  refine kf_ch ?_
  refine kl_call rfl rfl rfl Try.func23 rfl (by kernel_rfl) rfl ?_
  refine Calls.mono (stop_any (NeQ g x) g f r M k e mk W1 hDd.out.fs hDd.out.fresh (by omega) (hM.keep hDd.out.keeps) (by omega)) ?_
  rintro e w4 ⟨rfl, hf4, hg4⟩
  have hD4 := Lib.hid (hDd.out.fst hf4 hg4)
  clear hDd hf4 hg4
  refine ⟨_, rfl, ?_⟩
  refine kl_nil ?_
  refine kq_f trivial ?_
  repeat (first | refine kf_nil ?_ | refine kf_ung rfl rfl ?_ | refine kf_skipg rfl rfl rfl rfl ?_ | (first | refine kf_move rfl rfl (.inl rfl) rfl rfl ?_ | refine kf_move rfl rfl (.inr rfl) rfl rfl ?_ | refine kf_const rfl rfl (.inl rfl) rfl ?_ | refine kf_const rfl rfl (.inr rfl) rfl ?_) | (refine kf_val rfl rfl rfl ?_; apply Exists.intro; refine And.intro (fun W hW N hN => ?_) ?_; · (go_simp; (try go_bits); exact hN)))
  refine kq_then ?_
  repeat (first | refine kw_seq ?_ | refine kw_skip ?_ | refine kw_region ?_ | refine kl_nil ?_ | refine kq_then ?_ | refine kq_block ?_ | refine kw_exit ?_ | refine kq_then_exit ?_ | refine kq_block_here rfl ?_ | refine kq_block_far rfl ?_ | refine kq_again_exit ?_ | refine kw_ret ?_ | refine kq_then_ret ?_ | refine kq_block_ret ?_ | refine kq_again_ret ?_ | refine kw_ift rfl ?_ | refine kw_iff rfl ?_ | refine kl_ung rfl rfl ?_ | refine kl_skipg rfl rfl rfl rfl ?_ | refine kl_skipg0 rfl rfl rfl ?_ | (first | refine kl_move rfl rfl (.inl rfl) rfl rfl ?_ | refine kl_move rfl rfl (.inr rfl) rfl rfl ?_ | refine kl_const rfl rfl (.inl rfl) rfl ?_ | refine kl_const rfl rfl (.inr rfl) rfl ?_) | ((first | refine kl_step rfl rfl rfl fun K hK => ?_ | refine kl_step0 rfl rfl rfl fun K hK => ?_); go_simp; (try go_bits); (first | refine hK _ _ ?_ | refine hK _ ?_); clear hK K))
  refine kl_call rfl rfl rfl Try.func11 rfl (by kernel_rfl) rfl ?_
  refine Calls.mono (within_any z 9 9 _ rfl (by omega) (by omega)) ?_
  rintro e _ ⟨rfl, rfl⟩
  refine ⟨_, rfl, ?_⟩
  rw [HQ.out]
  repeat (first | refine kw_seq ?_ | refine kw_skip ?_ | refine kw_region ?_ | refine kl_nil ?_ | refine kq_then ?_ | refine kq_block ?_ | refine kw_exit ?_ | refine kq_then_exit ?_ | refine kq_block_here rfl ?_ | refine kq_block_far rfl ?_ | refine kq_again_exit ?_ | refine kw_ret ?_ | refine kq_then_ret ?_ | refine kq_block_ret ?_ | refine kq_again_ret ?_ | refine kw_ift rfl ?_ | refine kw_iff rfl ?_ | refine kl_ung rfl rfl ?_ | refine kl_skipg rfl rfl rfl rfl ?_ | refine kl_skipg0 rfl rfl rfl ?_ | (first | refine kl_move rfl rfl (.inl rfl) rfl rfl ?_ | refine kl_move rfl rfl (.inr rfl) rfl rfl ?_ | refine kl_const rfl rfl (.inl rfl) rfl ?_ | refine kl_const rfl rfl (.inr rfl) rfl ?_) | ((first | refine kl_step rfl rfl rfl fun K hK => ?_ | refine kl_step0 rfl rfl rfl fun K hK => ?_); go_simp; (try go_bits); (first | refine hK _ _ ?_ | refine hK _ ?_); clear hK K))
  refine kl_call rfl rfl rfl Try.func24 rfl (by kernel_rfl) rfl ?_
  refine Calls.mono (refStop_any (NeQ g x) x neq_x f r M k e mk w4 hD4.out.rf hD4.out.fresh (by omega) (hM.keep hD4.out.keeps) (by omega)) ?_
  rintro e w5 ⟨rfl, hf5, hg5⟩
  refine ⟨_, rfl, ?_⟩
  have hD5 := Lib.hid (hD4.out.snd hf5 hg5)
  clear hD4 hf5 hg5
  repeat (first | refine kw_seq ?_ | refine kw_skip ?_ | refine kw_region ?_ | refine kl_nil ?_ | refine kq_then ?_ | refine kq_block ?_ | refine kw_exit ?_ | refine kq_then_exit ?_ | refine kq_block_here rfl ?_ | refine kq_block_far rfl ?_ | refine kq_again_exit ?_ | refine kw_ret ?_ | refine kq_then_ret ?_ | refine kq_block_ret ?_ | refine kq_again_ret ?_ | refine kw_ift rfl ?_ | refine kw_iff rfl ?_ | refine kl_ung rfl rfl ?_ | refine kl_skipg rfl rfl rfl rfl ?_ | refine kl_skipg0 rfl rfl rfl ?_ | (first | refine kl_move rfl rfl (.inl rfl) rfl rfl ?_ | refine kl_move rfl rfl (.inr rfl) rfl rfl ?_ | refine kl_const rfl rfl (.inl rfl) rfl ?_ | refine kl_const rfl rfl (.inr rfl) rfl ?_) | ((first | refine kl_step rfl rfl rfl fun K hK => ?_ | refine kl_step0 rfl rfl rfl fun K hK => ?_); go_simp; (try go_bits); (first | refine hK _ _ ?_ | refine hK _ ?_); clear hK K))
  refine kl_call rfl rfl rfl Try.func15 rfl (by kernel_rfl) rfl ?_
  refine Calls.mono (append_any (NeQ g x) g neq_g _ 3 B m d b w5 hD5.out.fs (by omega) (hB.keep hD5.out.keeps) hmd (by omega)) ?_
  rintro e w6 ⟨rfl, hf6, hg6⟩
  refine ⟨_, rfl, ?_⟩
  have hD6 := Lib.hid (hD5.out.fst hf6 hg6)
  rw [HAP.out] at hD6 ⊢
  dsimp only at hD6 ⊢
  clear hD5 hf6 hg6
  repeat (first | refine kw_seq ?_ | refine kw_skip ?_ | refine kw_region ?_ | refine kl_nil ?_ | refine kq_then ?_ | refine kq_block ?_ | refine kw_exit ?_ | refine kq_then_exit ?_ | refine kq_block_here rfl ?_ | refine kq_block_far rfl ?_ | refine kq_again_exit ?_ | refine kw_ret ?_ | refine kq_then_ret ?_ | refine kq_block_ret ?_ | refine kq_again_ret ?_ | refine kw_ift rfl ?_ | refine kw_iff rfl ?_ | refine kl_ung rfl rfl ?_ | refine kl_skipg rfl rfl rfl rfl ?_ | refine kl_skipg0 rfl rfl rfl ?_ | (first | refine kl_move rfl rfl (.inl rfl) rfl rfl ?_ | refine kl_move rfl rfl (.inr rfl) rfl rfl ?_ | refine kl_const rfl rfl (.inl rfl) rfl ?_ | refine kl_const rfl rfl (.inr rfl) rfl ?_) | ((first | refine kl_step rfl rfl rfl fun K hK => ?_ | refine kl_step0 rfl rfl rfl fun K hK => ?_); go_simp; (try go_bits); (first | refine hK _ _ ?_ | refine hK _ ?_); clear hK K))
  refine kl_call rfl rfl rfl Try.func22 rfl (by kernel_rfl) rfl ?_
  refine Calls.mono (appendR_any (NeQ g x) x neq_x _ 3 B m d b w6 hD6.out.rf (by omega) (hB.keep hD6.out.keeps) hmd (by omega)) ?_
  rintro e w7 ⟨rfl, hf7, hg7⟩
  refine ⟨_, rfl, ?_⟩
  have hD7 := Lib.hid (hD6.out.snd hf7 hg7)
  rw [HAP.out] at hD7 ⊢
  dsimp only at hD7 ⊢
  have e1 : (eA != eA) = false := by simp
  clear hD6 hf7 hg7
  repeat (first | refine kw_seq ?_ | refine kw_skip ?_ | refine kw_region ?_ | refine kl_nil ?_ | refine kq_then ?_ | refine kq_block ?_ | refine kw_exit ?_ | refine kq_then_exit ?_ | refine kq_block_here rfl ?_ | refine kq_block_far rfl ?_ | refine kq_again_exit ?_ | refine kw_ret ?_ | refine kq_then_ret ?_ | refine kq_block_ret ?_ | refine kq_again_ret ?_ | refine kw_ift rfl ?_ | refine kw_iff rfl ?_ | refine kl_ung rfl rfl ?_ | refine kl_skipg rfl rfl rfl rfl ?_ | refine kl_skipg0 rfl rfl rfl ?_ | (first | refine kl_move rfl rfl (.inl rfl) rfl rfl ?_ | refine kl_move rfl rfl (.inr rfl) rfl rfl ?_ | refine kl_const rfl rfl (.inl rfl) rfl ?_ | refine kl_const rfl rfl (.inr rfl) rfl ?_) | ((first | refine kl_step rfl rfl rfl fun K hK => ?_ | refine kl_step0 rfl rfl rfl fun K hK => ?_); go_simp; (try go_bits); (first | refine hK _ _ ?_ | refine hK _ ?_); clear hK K))
  clear e1
  refine kl_call rfl rfl rfl Try.func25 rfl (by kernel_rfl) rfl ?_
  refine Calls.mono (start_any (NeQ g x) g _ w7 hD7.out.fs) ?_
  rintro e w8 ⟨rfl, hf8, hg8⟩
  refine ⟨_, rfl, ?_⟩
  have hD8 := Lib.hid (hD7.out.fst hf8 hg8)
  clear hD7 hf8 hg8
  repeat (first | refine kw_seq ?_ | refine kw_skip ?_ | refine kw_region ?_ | refine kl_nil ?_ | refine kq_then ?_ | refine kq_block ?_ | refine kw_exit ?_ | refine kq_then_exit ?_ | refine kq_block_here rfl ?_ | refine kq_block_far rfl ?_ | refine kq_again_exit ?_ | refine kw_ret ?_ | refine kq_then_ret ?_ | refine kq_block_ret ?_ | refine kq_again_ret ?_ | refine kw_ift rfl ?_ | refine kw_iff rfl ?_ | refine kl_ung rfl rfl ?_ | refine kl_skipg rfl rfl rfl rfl ?_ | refine kl_skipg0 rfl rfl rfl ?_ | (first | refine kl_move rfl rfl (.inl rfl) rfl rfl ?_ | refine kl_move rfl rfl (.inr rfl) rfl rfl ?_ | refine kl_const rfl rfl (.inl rfl) rfl ?_ | refine kl_const rfl rfl (.inr rfl) rfl ?_) | ((first | refine kl_step rfl rfl rfl fun K hK => ?_ | refine kl_step0 rfl rfl rfl fun K hK => ?_); go_simp; (try go_bits); (first | refine hK _ _ ?_ | refine hK _ ?_); clear hK K))
  refine kl_call rfl rfl rfl Try.func26 rfl (by kernel_rfl) rfl ?_
  refine Calls.mono (refStart_any (NeQ g x) x _ w8 hD8.out.rf) ?_
  rintro e w9 ⟨rfl, hf9, hg9⟩
  refine ⟨_, rfl, ?_⟩
  have hD9 := Lib.hid (hD8.out.snd hf9 hg9)
  clear hD8 hf9 hg9
  repeat (first | refine kw_seq ?_ | refine kw_skip ?_ | refine kw_region ?_ | refine kl_nil ?_ | refine kq_then ?_ | refine kq_block ?_ | refine kw_exit ?_ | refine kq_then_exit ?_ | refine kq_block_here rfl ?_ | refine kq_block_far rfl ?_ | refine kq_again_exit ?_ | refine kw_ret ?_ | refine kq_then_ret ?_ | refine kq_block_ret ?_ | refine kq_again_ret ?_ | refine kw_ift rfl ?_ | refine kw_iff rfl ?_ | refine kl_ung rfl rfl ?_ | refine kl_skipg rfl rfl rfl rfl ?_ | refine kl_skipg0 rfl rfl rfl ?_ | (first | refine kl_move rfl rfl (.inl rfl) rfl rfl ?_ | refine kl_move rfl rfl (.inr rfl) rfl rfl ?_ | refine kl_const rfl rfl (.inl rfl) rfl ?_ | refine kl_const rfl rfl (.inr rfl) rfl ?_) | ((first | refine kl_step rfl rfl rfl fun K hK => ?_ | refine kl_step0 rfl rfl rfl fun K hK => ?_); go_simp; (try go_bits); (first | refine hK _ _ ?_ | refine hK _ ?_); clear hK K))
  refine kl_call rfl rfl rfl Try.func16 rfl (by kernel_rfl) rfl ?_
  refine Calls.mono (load_any (NeQ g x) g _ 3 w9 hD9.out.fs) ?_
  rintro e w10 ⟨A2, n2, c2, rfl, hp2, hn2, hc2, hb10⟩
  refine ⟨_, rfl, ?_⟩
  have hDa := Lib.hid (hD9.out.next hb10)
  clear hD9 hb10
  repeat (first | refine kw_seq ?_ | refine kw_skip ?_ | refine kw_region ?_ | refine kl_nil ?_ | refine kq_then ?_ | refine kq_block ?_ | refine kw_exit ?_ | refine kq_then_exit ?_ | refine kq_block_here rfl ?_ | refine kq_block_far rfl ?_ | refine kq_again_exit ?_ | refine kw_ret ?_ | refine kq_then_ret ?_ | refine kq_block_ret ?_ | refine kq_again_ret ?_ | refine kw_ift rfl ?_ | refine kw_iff rfl ?_ | refine kl_ung rfl rfl ?_ | refine kl_skipg rfl rfl rfl rfl ?_ | refine kl_skipg0 rfl rfl rfl ?_ | (first | refine kl_move rfl rfl (.inl rfl) rfl rfl ?_ | refine kl_move rfl rfl (.inr rfl) rfl rfl ?_ | refine kl_const rfl rfl (.inl rfl) rfl ?_ | refine kl_const rfl rfl (.inr rfl) rfl ?_) | ((first | refine kl_step rfl rfl rfl fun K hK => ?_ | refine kl_step0 rfl rfl rfl fun K hK => ?_); go_simp; (try go_bits); (first | refine hK _ _ ?_ | refine hK _ ?_); clear hK K))
  refine kl_call rfl rfl rfl Try.func27 rfl (by kernel_rfl) rfl ?_
  refine Calls.mono (loadR_any (NeQ g x) x _ 3 w10 hDa.out.rf (by omega)) ?_
  rintro e w11 ⟨A3, n3, c3, rfl, hp3, hn3, hc3, hb11⟩
  refine ⟨_, rfl, ?_⟩
  have hDb := Lib.hid (hDa.out.next hb11)
  have hp2 := hp2.keep (Keeps.of_below hb11)
  clear hDa hb11
  obtain ⟨R, hR⟩ : ∃ R, (loadR (readF (startF f3) 3)).1 = R := ⟨_, rfl⟩
  obtain ⟨F, hF⟩ : ∃ F, (loadR (readF (startF f3) 3)).2 = F := ⟨_, rfl⟩
  have hFb := loadR_le (readF (startF f3) 3)
  rw [hF] at hFb
  rw [hR] at hp2 hp3 HT
  rw [hF]
  clear hR hF
  have hl2 := hp2.len
  have hl3 := hp3.len
  obtain rfl : n3 = n2 := by omega
  have v0 : ((F : Int) != (F : Int)) = false := by simp
  have hpA := Lib.hid (hA.keep hDb.out.keeps)
  have HT2 := HT.out
  clear HT
  rcases HT2 with h | h
  · obtain ⟨h, rfl⟩ := h
    subst h
    obtain rfl : n3 = i := by rw [← hl2, HLL.out]
    obtain ⟨i1, hi1⟩ : ∃ i1, n3 + 1 = i1 := ⟨_, rfl⟩
    have p1 : (n3 : Int) + 1 = (i1 : Int) := by omega
    have p2 : decide ((n3 : Int) < (n3 : Int)) = false := by simp
    have p3 : decide ((i1 : Int) < (n3 : Int)) = false := by rw [decide_eq_false_iff_not]; omega
    have p3n : decide (i1 < n3) = false := decide_eq_false (by omega)
    have p2n : decide (n3 < n3) = false := by simp
    have p4 : (0 : Int) ≤ (n3 : Int) := by omega
    have p5 : (n3 : Int) ≤ 64 := by omega
    have p6 : (n3 : Int) ≤ (c2 : Int) := by omega
    have p7 : ((n3 : Int) == (i1 : Int)) = false := by rw [beq_eq_false_iff_ne]; omega
    have p7n : (n3 == i1) = false := by rw [beq_eq_false_iff_ne]; omega
    have p8 : n3 ≤ 64 := by omega
    have HI1 := Lib.hid hi1
    clear hi1
    repeat (first | refine kw_seq ?_ | refine kw_skip ?_ | refine kw_region ?_ | refine kl_nil ?_ | refine kq_then ?_ | refine kq_block ?_ | refine kw_exit ?_ | refine kq_then_exit ?_ | refine kq_block_here rfl ?_ | refine kq_block_far rfl ?_ | refine kq_again_exit ?_ | refine kw_ret ?_ | refine kq_then_ret ?_ | refine kq_block_ret ?_ | refine kq_again_ret ?_ | refine kw_ift rfl ?_ | refine kw_iff rfl ?_ | refine kl_ung rfl rfl ?_ | refine kl_skipg rfl rfl rfl rfl ?_ | refine kl_skipg0 rfl rfl rfl ?_ | (first | refine kl_move rfl rfl (.inl rfl) rfl rfl ?_ | refine kl_move rfl rfl (.inr rfl) rfl rfl ?_ | refine kl_const rfl rfl (.inl rfl) rfl ?_ | refine kl_const rfl rfl (.inr rfl) rfl ?_) | ((first | refine kl_step rfl rfl rfl fun K hK => ?_ | refine kl_step0 rfl rfl rfl fun K hK => ?_); go_simp; (try go_bits); (first | refine hK _ _ ?_ | refine hK _ ?_); clear hK K))
    refine kl_call rfl rfl rfl Try.func17 rfl (by kernel_rfl) rfl ?_
    refine Calls.mono (rows5_any A2 A3 n3 c2 n3 c3 R R w11 hp2 hp3 (by omega)) ?_
    rintro e w12 ⟨rfl, hb12⟩
    refine ⟨_, rfl, ?_⟩
    have hDc := Lib.hid (hDb.out.next hb12)
    have hp2' := hp2.keep (Keeps.of_below hb12)
    have hpA' := hpA.out.keep (Keeps.of_below hb12)
    clear hDb hb12 hp2 hp3 hpA
    rw [decide_eq_true (show R = R from rfl)]
    repeat (first | refine kw_seq ?_ | refine kw_skip ?_ | refine kw_region ?_ | refine kl_nil ?_ | refine kq_then ?_ | refine kq_block ?_ | refine kw_exit ?_ | refine kq_then_exit ?_ | refine kq_block_here rfl ?_ | refine kq_block_far rfl ?_ | refine kq_again_exit ?_ | refine kw_ret ?_ | refine kq_then_ret ?_ | refine kq_block_ret ?_ | refine kq_again_ret ?_ | refine kw_ift rfl ?_ | refine kw_iff rfl ?_ | refine kl_ung rfl rfl ?_ | refine kl_skipg rfl rfl rfl rfl ?_ | refine kl_skipg0 rfl rfl rfl ?_ | (first | refine kl_move rfl rfl (.inl rfl) rfl rfl ?_ | refine kl_move rfl rfl (.inr rfl) rfl rfl ?_ | refine kl_const rfl rfl (.inl rfl) rfl ?_ | refine kl_const rfl rfl (.inr rfl) rfl ?_) | ((first | refine kl_step rfl rfl rfl fun K hK => ?_ | refine kl_step0 rfl rfl rfl fun K hK => ?_); go_simp; (try go_bits); (first | refine hK _ _ ?_ | refine hK _ ?_); clear hK K))
    refine kl_call rfl rfl rfl Try.func17 rfl (by kernel_rfl) rfl ?_
    refine Calls.mono (rows5_any A2 A n3 c2 n3 c R R w12 hp2' hpA' (by omega)) ?_
    rintro e w13 ⟨rfl, hb13⟩
    refine ⟨_, rfl, ?_⟩
    have hDd := Lib.hid (hDc.out.next hb13)
    clear hDc hb13 hp2' hpA'
    rw [decide_eq_true (show R = R from rfl)]
    repeat (first | refine kw_seq ?_ | refine kw_skip ?_ | refine kw_region ?_ | refine kl_nil ?_ | refine kq_then ?_ | refine kq_block ?_ | refine kw_exit ?_ | refine kq_then_exit ?_ | refine kq_block_here rfl ?_ | refine kq_block_far rfl ?_ | refine kq_again_exit ?_ | refine kw_ret ?_ | refine kq_then_ret ?_ | refine kq_block_ret ?_ | refine kq_again_ret ?_ | refine kw_ift rfl ?_ | refine kw_iff rfl ?_ | refine kl_ung rfl rfl ?_ | refine kl_skipg rfl rfl rfl rfl ?_ | refine kl_skipg0 rfl rfl rfl ?_ | (first | refine kl_move rfl rfl (.inl rfl) rfl rfl ?_ | refine kl_move rfl rfl (.inr rfl) rfl rfl ?_ | refine kl_const rfl rfl (.inl rfl) rfl ?_ | refine kl_const rfl rfl (.inr rfl) rfl ?_) | ((first | refine kl_step rfl rfl rfl fun K hK => ?_ | refine kl_step0 rfl rfl rfl fun K hK => ?_); go_simp; (try go_bits); (first | refine hK _ _ ?_ | refine hK _ ?_); clear hK K))
    refine kw_region_f (fun _ => True) [true, true, true, true, true, true, true, true, true, true, true, true, true, true, true, true, true] (by kernel_rfl) (by kernel_rfl) trivial ?_
    have hDe := Lib.hid (hDd.out.next ((Below.refl _ _).drew))
    clear hDd
    generalize w13.drew = w14 at hDe ⊢
    repeat (first | refine kf_nil ?_ | refine kf_ung rfl rfl ?_ | refine kf_skipg rfl rfl rfl rfl ?_ | (first | refine kf_move rfl rfl (.inl rfl) rfl rfl ?_ | refine kf_move rfl rfl (.inr rfl) rfl rfl ?_ | refine kf_const rfl rfl (.inl rfl) rfl ?_ | refine kf_const rfl rfl (.inr rfl) rfl ?_) | (refine kf_val rfl rfl rfl ?_; apply Exists.intro; refine And.intro (fun W hW N hN => ?_) ?_; · (go_simp; (try go_bits); exact hN)))
    refine kq_then ?_
    repeat (first | refine kw_seq ?_ | refine kw_block ?_ | refine kw_skip ?_ | refine kw_region ?_ | refine kl_nil ?_ | refine kq_then ?_ | refine kq_block ?_ | refine kw_exit ?_ | refine kq_then_exit ?_ | refine kq_block_here rfl ?_ | refine kq_block_far rfl ?_ | refine kq_again_exit ?_ | refine kw_ret ?_ | refine kq_then_ret ?_ | refine kq_block_ret ?_ | refine kq_again_ret ?_ | refine kw_ift rfl ?_ | refine kw_iff rfl ?_ | refine kl_ung rfl rfl ?_ | refine kl_skipg rfl rfl rfl rfl ?_ | refine kl_skipg0 rfl rfl rfl ?_ | (first | refine kl_move rfl rfl (.inl rfl) rfl rfl ?_ | refine kl_move rfl rfl (.inr rfl) rfl rfl ?_ | refine kl_const rfl rfl (.inl rfl) rfl ?_ | refine kl_const rfl rfl (.inr rfl) rfl ?_) | ((first | refine kl_step rfl rfl rfl fun K hK => ?_ | refine kl_step0 rfl rfl rfl fun K hK => ?_); go_simp; (try go_bits); (first | refine hK _ _ ?_ | refine hK _ ?_); clear hK K))
    exact kq_ret1 rfl rfl ⟨rfl, hDe.out.bel⟩
  · obtain ⟨y, hy⟩ := h
    subst hy
    have hn1 : n3 = i + 1 := by rw [← hl2, List.length_append, HLL.out]; rfl
    obtain ⟨i1, hi1⟩ : ∃ i1, i + 1 = i1 := ⟨_, rfl⟩
    rw [hi1] at hn1
    subst hn1
    have p1 : (i : Int) + 1 = (n3 : Int) := by omega
    have p2 : decide ((n3 : Int) < (i : Int)) = false := by rw [decide_eq_false_iff_not]; omega
    have p3 : decide ((n3 : Int) < (n3 : Int)) = false := by simp
    have p3n : decide (n3 < n3) = false := by simp
    have p2n : decide (n3 < i) = false := decide_eq_false (by omega)
    have p4 : (0 : Int) ≤ (i : Int) := by omega
    have p5 : (i : Int) ≤ 64 := by omega
    have p6 : (i : Int) ≤ (c2 : Int) := by omega
    have p7 : ((n3 : Int) == (n3 : Int)) = true := by simp
    have p8 : n3 ≤ 64 := by omega
    have p9 : (0 : Int) ≤ (n3 : Int) := by omega
    have pa : (n3 : Int) ≤ 64 := by omega
    have pb : (i : Int) < (n3 : Int) := by omega
    obtain ⟨bR, oR, By, my, cy, ly, rfl, hcy, hBy, hmy, hcy9, _, hgy⟩ := hp2.next (k := i) (by omega)
    obtain ⟨bS, oS, Bz, mz, cz, lz, rfl, hcz, hBz, hmz, hcz9, _, hgz⟩ := hp3.next (k := i) (by omega)
    have hly : ly = y := by
      have := hgy.out
      rw [List.getElem?_append_right (by rw [HLL.out]; exact Nat.le_refl _), HLL.out, Nat.sub_self] at this
      simp at this; exact this.symm
    have hlz : lz = y := by
      have := hgz.out
      rw [List.getElem?_append_right (by rw [HLL.out]; exact Nat.le_refl _), HLL.out, Nat.sub_self] at this
      simp at this; exact this.symm
    subst hly
    subst hlz
    have hto : Ps w11 (some ⟨bR, oR, none⟩) i ls := by
      have := hp2.to_ (k := i) (by omega)
      rwa [List.take_append_of_le_length (by rw [HLL.out]; exact Nat.le_refl _), List.take_of_length_le (by rw [HLL.out]; exact Nat.le_refl _)] at this
    have HI1 := Lib.hid hi1
    clear hi1
    repeat (first | refine kw_seq ?_ | refine kw_skip ?_ | refine kw_region ?_ | refine kl_nil ?_ | refine kq_then ?_ | refine kq_block ?_ | refine kw_exit ?_ | refine kq_then_exit ?_ | refine kq_block_here rfl ?_ | refine kq_block_far rfl ?_ | refine kq_again_exit ?_ | refine kw_ret ?_ | refine kq_then_ret ?_ | refine kq_block_ret ?_ | refine kq_again_ret ?_ | refine kw_ift rfl ?_ | refine kw_iff rfl ?_ | refine kl_ung rfl rfl ?_ | refine kl_skipg rfl rfl rfl rfl ?_ | refine kl_skipg0 rfl rfl rfl ?_ | (first | refine kl_move rfl rfl (.inl rfl) rfl rfl ?_ | refine kl_move rfl rfl (.inr rfl) rfl rfl ?_ | refine kl_const rfl rfl (.inl rfl) rfl ?_ | refine kl_const rfl rfl (.inr rfl) rfl ?_) | ((first | refine kl_step rfl rfl rfl fun K hK => ?_ | refine kl_step0 rfl rfl rfl fun K hK => ?_); go_simp; (try go_bits); (first | refine hK _ _ ?_ | refine hK _ ?_); clear hK K))
    refine kl_call rfl rfl rfl Try.func17 rfl (by kernel_rfl) rfl ?_
    refine Calls.mono (rows5_any _ _ n3 c2 n3 c3 _ _ w11 hp2 hp3 (by omega)) ?_
    rintro e w12 ⟨rfl, hb12⟩
    refine ⟨_, rfl, ?_⟩
    have hDc := Lib.hid (hDb.out.next hb12)
    have hto := hto.keep (Keeps.of_below hb12)
    have hpA' := hpA.out.keep (Keeps.of_below hb12)
    have hcy := Keeps.of_below hb12 _ _ hcy
    have hcz := Keeps.of_below hb12 _ _ hcz
    have hBy := hBy.keep (Keeps.of_below hb12)
    have hBz := hBz.keep (Keeps.of_below hb12)
    clear hDb hb12 hp2 hp3 hpA
    have HY := Lib.hid (And.intro hcy (And.intro hcz (And.intro hBy hBz)))
    clear hcy hcz hBy hBz
    rw [decide_eq_true rfl]
    repeat (first | refine kw_seq ?_ | refine kw_skip ?_ | refine kw_region ?_ | refine kl_nil ?_ | refine kq_then ?_ | refine kq_block ?_ | refine kw_exit ?_ | refine kq_then_exit ?_ | refine kq_block_here rfl ?_ | refine kq_block_far rfl ?_ | refine kq_again_exit ?_ | refine kw_ret ?_ | refine kq_then_ret ?_ | refine kq_block_ret ?_ | refine kq_again_ret ?_ | refine kw_ift rfl ?_ | refine kw_iff rfl ?_ | refine kl_ung rfl rfl ?_ | refine kl_skipg rfl rfl rfl rfl ?_ | refine kl_skipg0 rfl rfl rfl ?_ | (first | refine kl_move rfl rfl (.inl rfl) rfl rfl ?_ | refine kl_move rfl rfl (.inr rfl) rfl rfl ?_ | refine kl_const rfl rfl (.inl rfl) rfl ?_ | refine kl_const rfl rfl (.inr rfl) rfl ?_) | ((first | refine kl_step rfl rfl rfl fun K hK => ?_ | refine kl_step0 rfl rfl rfl fun K hK => ?_); go_simp; (try go_bits); (first | refine hK _ _ ?_ | refine hK _ ?_); clear hK K))
    refine kl_call rfl rfl rfl Try.func17 rfl (by kernel_rfl) rfl ?_
    refine Calls.mono (rows5_any _ A i c2 i c ls ls w12 hto hpA' (by omega)) ?_
    rintro e w13 ⟨rfl, hb13⟩
    refine ⟨_, rfl, ?_⟩
    have hDd := Lib.hid (hDc.out.next hb13)
    have HB13 := Lib.hid (hB.keep hDd.out.keeps)
    have HY2 := Lib.hid (And.intro (Keeps.of_below hb13 _ _ HY.out.1) (And.intro (Keeps.of_below hb13 _ _ HY.out.2.1) (And.intro (HY.out.2.2.1.keep (Keeps.of_below hb13)) (HY.out.2.2.2.keep (Keeps.of_below hb13)))))
    clear hDc hb13 hto hpA' HY
    rw [decide_eq_true (show ls = ls from rfl)]
    repeat (first | refine kw_seq ?_ | refine kw_skip ?_ | refine kw_region ?_ | refine kl_nil ?_ | refine kq_then ?_ | refine kq_block ?_ | refine kw_exit ?_ | refine kq_then_exit ?_ | refine kq_block_here rfl ?_ | refine kq_block_far rfl ?_ | refine kq_again_exit ?_ | refine kw_ret ?_ | refine kq_then_ret ?_ | refine kq_block_ret ?_ | refine kq_again_ret ?_ | refine kw_ift rfl ?_ | refine kw_iff rfl ?_ | refine kl_ung rfl rfl ?_ | refine kl_skipg rfl rfl rfl rfl ?_ | refine kl_skipg0 rfl rfl rfl ?_ | (first | refine kl_move rfl rfl (.inl rfl) rfl rfl ?_ | refine kl_move rfl rfl (.inr rfl) rfl rfl ?_ | refine kl_const rfl rfl (.inl rfl) rfl ?_ | refine kl_const rfl rfl (.inr rfl) rfl ?_) | ((first | refine kl_step rfl rfl rfl fun K hK => ?_ | refine kl_step0 rfl rfl rfl fun K hK => ?_); go_simp; (try go_bits); (first | refine hK _ _ ?_ | refine hK _ ?_); clear hK K))
    have rY := fun W (h : Below w13.heap.size w13 W) => Keeps.of_below h _ _ HY2.out.1
    have rZ := fun W (h : Below w13.heap.size w13 W) => Keeps.of_below h _ _ HY2.out.2.1
    have vY := fun W (h : Below w13.heap.size w13 W) => convB (c := cy) (HY2.out.2.2.1.keep (.of_below h))
    have vZ := fun W (h : Below w13.heap.size w13 W) => convB (c := cz) (HY2.out.2.2.2.keep (.of_below h))
    have vB := fun W (h : Below w13.heap.size w13 W) => convB (c := d) (HB13.out.keep (.of_below h))
    by_cases hyb : lz = b
    · have e1 : (lz != b) = false := by rw [hyb]; simp
      have hb14 := below_then hDd.out.bel ((Below.refl _ _).drew) hDd.out.bel.size
      refine kw_region_f (Below w13.heap.size w13) [true, true, true, true, true, true, true, true, true, true, true, true, true, true, true, true, true] (by kernel_rfl) (by kernel_rfl) ((Below.refl _ _).drew) ?_
      repeat (first | refine kf_nil ?_ | refine kf_ung rfl rfl ?_ | refine kf_skipg rfl rfl rfl rfl ?_ | (first | refine kf_move rfl rfl (.inl rfl) rfl rfl ?_ | refine kf_move rfl rfl (.inr rfl) rfl rfl ?_ | refine kf_const rfl rfl (.inl rfl) rfl ?_ | refine kf_const rfl rfl (.inr rfl) rfl ?_) | (refine kf_val rfl rfl rfl ?_; apply Exists.intro; refine And.intro (fun W hW N hN => ?_) ?_; · (go_simp; (try go_bits); exact hN)))
      refine kq_then ?_
      generalize w13.drew = w14 at hb14 ⊢
      by_cases heA : eA = 0
      · have e2 : (eA != 0) = false := by rw [heA]; rfl
        repeat (first | refine kw_seq ?_ | refine kw_block ?_ | refine kw_skip ?_ | refine kw_region ?_ | refine kl_nil ?_ | refine kq_then ?_ | refine kq_block ?_ | refine kw_exit ?_ | refine kq_then_exit ?_ | refine kq_block_here rfl ?_ | refine kq_block_far rfl ?_ | refine kq_again_exit ?_ | refine kw_ret ?_ | refine kq_then_ret ?_ | refine kq_block_ret ?_ | refine kq_again_ret ?_ | refine kw_ift rfl ?_ | refine kw_iff rfl ?_ | refine kl_ung rfl rfl ?_ | refine kl_skipg rfl rfl rfl rfl ?_ | refine kl_skipg0 rfl rfl rfl ?_ | (first | refine kl_move rfl rfl (.inl rfl) rfl rfl ?_ | refine kl_move rfl rfl (.inr rfl) rfl rfl ?_ | refine kl_const rfl rfl (.inl rfl) rfl ?_ | refine kl_const rfl rfl (.inr rfl) rfl ?_) | ((first | refine kl_step rfl rfl rfl fun K hK => ?_ | refine kl_step0 rfl rfl rfl fun K hK => ?_); go_simp; (try go_bits); (first | refine hK _ _ ?_ | refine hK _ ?_); clear hK K))
        exact kq_ret1 rfl rfl ⟨rfl, hb14⟩
      · have e2 : (eA != 0) = true := bne_iff_ne.2 heA
        repeat (first | refine kw_seq ?_ | refine kw_block ?_ | refine kw_skip ?_ | refine kw_region ?_ | refine kl_nil ?_ | refine kq_then ?_ | refine kq_block ?_ | refine kw_exit ?_ | refine kq_then_exit ?_ | refine kq_block_here rfl ?_ | refine kq_block_far rfl ?_ | refine kq_again_exit ?_ | refine kw_ret ?_ | refine kq_then_ret ?_ | refine kq_block_ret ?_ | refine kq_again_ret ?_ | refine kw_ift rfl ?_ | refine kw_iff rfl ?_ | refine kl_ung rfl rfl ?_ | refine kl_skipg rfl rfl rfl rfl ?_ | refine kl_skipg0 rfl rfl rfl ?_ | (first | refine kl_move rfl rfl (.inl rfl) rfl rfl ?_ | refine kl_move rfl rfl (.inr rfl) rfl rfl ?_ | refine kl_const rfl rfl (.inl rfl) rfl ?_ | refine kl_const rfl rfl (.inr rfl) rfl ?_) | ((first | refine kl_step rfl rfl rfl fun K hK => ?_ | refine kl_step0 rfl rfl rfl fun K hK => ?_); go_simp; (try go_bits); (first | refine hK _ _ ?_ | refine hK _ ?_); clear hK K))
        exact kq_ret1 rfl rfl ⟨rfl, hb14⟩
    · have e1 : (lz == b) = false := beq_eq_false_iff_ne.2 hyb
      refine kw_region_f (Below w13.heap.size w13) [true, true, true, true, true, true, true, true, true, true, true, true, true, true, true, true, true] (by kernel_rfl) (by kernel_rfl) ((Below.refl _ _).drew) ?_
      repeat (first | refine kf_nil ?_ | refine kf_ung rfl rfl ?_ | refine kf_skipg rfl rfl rfl rfl ?_ | (first | refine kf_move rfl rfl (.inl rfl) rfl rfl ?_ | refine kf_move rfl rfl (.inr rfl) rfl rfl ?_ | refine kf_const rfl rfl (.inl rfl) rfl ?_ | refine kf_const rfl rfl (.inr rfl) rfl ?_) | (refine kf_val rfl rfl rfl ?_; apply Exists.intro; refine And.intro (fun W hW N hN => ?_) ?_; · (go_simp; (try go_bits); exact hN)))
      refine kq_then ?_
      have hb13' : Below w13.heap.size w13 w13.drew := (Below.refl _ _).drew
      repeat (first | refine kw_seq ?_ | refine kw_ift rfl ?_)
      refine kw_region_f (Below w13.heap.size w13) [true, true, true, true, true, true, true, true, true, true, true, true, true, true] (by kernel_rfl) (by kernel_rfl) (below_then hb13' ((Below.refl _ _).drew) hb13'.size) ?_
      repeat (first | refine kf_nil ?_ | refine kf_ung rfl rfl ?_ | refine kf_skipg rfl rfl rfl rfl ?_ | (first | refine kf_move rfl rfl (.inl rfl) rfl rfl ?_ | refine kf_move rfl rfl (.inr rfl) rfl rfl ?_ | refine kf_const rfl rfl (.inl rfl) rfl ?_ | refine kf_const rfl rfl (.inr rfl) rfl ?_) | (refine kf_val rfl rfl rfl ?_; apply Exists.intro; refine And.intro (fun W hW N hN => ?_) ?_; · (go_simp; (try go_bits); exact hN)))
      refine kq_then ?_
      have hb14 := below_then hDd.out.bel (below_then hb13' ((Below.refl _ _).drew) hb13'.size) hDd.out.bel.size
      repeat (first | refine kw_seq ?_ | refine kw_block ?_ | refine kw_skip ?_ | refine kw_region ?_ | refine kl_nil ?_ | refine kq_then ?_ | refine kq_block ?_ | refine kw_exit ?_ | refine kq_then_exit ?_ | refine kq_block_here rfl ?_ | refine kq_block_far rfl ?_ | refine kq_again_exit ?_ | refine kw_ret ?_ | refine kq_then_ret ?_ | refine kq_block_ret ?_ | refine kq_again_ret ?_ | refine kw_ift rfl ?_ | refine kw_iff rfl ?_ | refine kl_ung rfl rfl ?_ | refine kl_skipg rfl rfl rfl rfl ?_ | refine kl_skipg0 rfl rfl rfl ?_ | (first | refine kl_move rfl rfl (.inl rfl) rfl rfl ?_ | refine kl_move rfl rfl (.inr rfl) rfl rfl ?_ | refine kl_const rfl rfl (.inl rfl) rfl ?_ | refine kl_const rfl rfl (.inr rfl) rfl ?_) | ((first | refine kl_step rfl rfl rfl fun K hK => ?_ | refine kl_step0 rfl rfl rfl fun K hK => ?_); go_simp; (try go_bits); (first | refine hK _ _ ?_ | refine hK _ ?_); clear hK K))
      exact kq_ret1 rfl rfl ⟨rfl, hb14⟩
end Go.Proofs.Ytblidiecahpekaa
