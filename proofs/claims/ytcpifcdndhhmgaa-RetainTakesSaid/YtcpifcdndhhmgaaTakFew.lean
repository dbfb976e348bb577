/- Types and variables that are not too much. -/
import Derived.Test.YtcpifcdndhhmgaaTakSmall
set_option linter.unusedVariables false
set_option linter.unusedSimpArgs false
namespace Go.Proofs.Ytcpifcdndhhmgaa
open Go.RowKit
attribute [local go_sem] ev_tmp ev_const ev_func ev_global lk_hit lk_miss uponK_value uponK_skip look_tmp look_const look_global look_func valP_value
def few7 (t : TypV) : Bool := (t.fields.all fun f => decide (f.name.length ≤ 20)) && decide (t.fields.length ≤ 9)
def few8it (s : SymV) : Bool := decide (s.name.length ≤ 20) && (few7 s.typ && decide (s.init.length ≤ 40))
def few8 (l : List SymA) : Bool := (l.all fun a => few8it a.s) && decide (l.length ≤ 16)
set_option maxRecDepth 100000 in
set_option maxHeartbeats 1000000 in
theorem few7_any (t : TypV) (FA : Option Addr) (fn fc : Nat) (w : World) (hT : TypM w t FA fn fc) :
    Calls Try.prog 49 #[.agg (typC t FA fn fc).toArray] w fun e w' => e = .returned (.bool (few7 t)) ∧ Below w.heap.size w w' := by
  have HL := Lib.hid hT.row.len
  have HC := Lib.hid (And.intro hT.le hT.cap)
  refine calls_kw Try.func49 rfl Try.ntmps49 rfl [(0, .agg (typC t FA fn fc).toArray)] rfl ?_
  refine kw_seq ?_
  refine kw_region ?_
  refine kl_boxL (Lay.start w) rfl rfl rfl rfl rfl ?_
  intro g1 w1 hg1 hb1 hL1
  have HB := Lib.hid hb1
  have hT1 := hT.row.keep (.of_below hb1)
  have c3 : w1.cell? ⟨g1, 3, none⟩ = some (.slice FA fn fc) := hL1.get (j := 3) 0 rfl rfl
  clear hg1 hb1 hL1
  repeat (first | refine kw_seq ?_ | refine kw_region ?_ | refine kl_nil ?_ | refine kq_then ?_ | (first | refine kl_move rfl rfl (.inl rfl) rfl rfl ?_ | refine kl_move rfl rfl (.inr rfl) rfl rfl ?_ | refine kl_const rfl rfl (.inl rfl) rfl ?_ | refine kl_const rfl rfl (.inr rfl) rfl ?_) | ((first | refine kl_step rfl rfl rfl fun K hK => ?_ | refine kl_step0 rfl rfl rfl fun K hK => ?_); go_simp; (try go_bits); (first | refine hK _ _ ?_ | refine hK _ ?_); clear hK K))
  refine KW.less [1, 3] ?_
  simp only [nrm, lk, Nat.reduceBEq, cond_true, cond_false]
  refine kw_block ?_
  refine kw_loop (fun mm L W => ∃ k, k ≤ fn ∧ mm = fn - k ∧ w1 = W ∧ Hid ((t.fields.take k).all (fun f => decide (f.name.length ≤ 20)) = true) ∧ L = [(1, .pointer (some ⟨g1, 0, none⟩)), (3, .int .i64 (k : Int))]) ⟨0, by omega, rfl, rfl, rfl, rfl⟩ ?_
  rintro mm L W ⟨k, hk, rfl, rfl, hf, rfl⟩
  have m0 : (fn : Int) ≤ 9223372036854775807 := by have := HC.out; omega
  by_cases hlt : k < fn
  case neg =>
    obtain rfl : fn = k := by omega
    rw [List.take_of_length_le (by rw [HL.out]; exact Nat.le_refl _)] at hf
    have t1 : decide ((fn : Int) < (fn : Int)) = false := by simp
    have t1n : decide (fn < fn) = false := by simp
    obtain ⟨bb, hbb⟩ : ∃ bb, decide (fn ≤ 9) = bb := ⟨_, rfl⟩
    have t2 : decide ((fn : Int) ≤ 9) = bb := by rw [← hbb, decide_eq_decide]; omega
    have t2n := hbb
    clear hbb hlt
    repeat (first | refine kw_seq ?_ | refine kw_block ?_ | refine kw_skip ?_ | refine kw_region ?_ | refine kl_nil ?_ | refine kq_then ?_ | refine kq_block ?_ | refine kw_exit ?_ | refine kq_then_exit ?_ | refine kq_block_here rfl ?_ | refine kq_block_far rfl ?_ | refine kq_again_exit ?_ | refine kw_ret ?_ | refine kq_then_ret ?_ | refine kq_block_ret ?_ | refine kq_again_ret ?_ | refine kw_ift rfl ?_ | refine kw_iff rfl ?_ | refine kl_ung rfl rfl ?_ | refine kl_skipg rfl rfl rfl rfl ?_ | refine kl_skipg0 rfl rfl rfl ?_ | (first | refine kl_move rfl rfl (.inl rfl) rfl rfl ?_ | refine kl_move rfl rfl (.inr rfl) rfl rfl ?_ | refine kl_const rfl rfl (.inl rfl) rfl ?_ | refine kl_const rfl rfl (.inr rfl) rfl ?_) | ((first | refine kl_step rfl rfl rfl fun K hK => ?_ | refine kl_step0 rfl rfl rfl fun K hK => ?_); go_simp; (try go_bits); (first | refine hK _ _ ?_ | refine hK _ ?_); clear hK K))
    exact kq_ret1 rfl rfl ⟨by unfold few7; rw [hf.out, HL.out, t2n, Bool.true_and], HB.out⟩
  have t1 : decide ((k : Int) < (fn : Int)) = true := by rw [decide_eq_true_eq]; omega
  have t1n : decide (k < fn) = true := decide_eq_true hlt
  have u0 : (0 : Int) ≤ k := by omega
  have u1 : (k : Int) < fn := by omega
  obtain ⟨g, o, p, rfl, hr, ht, hx⟩ := hT1.next hlt
  have c0 : w1.cell? ⟨g, o + k * 2, none⟩ = some (.string ⟨p.name.toArray⟩) := hr 0 _ rfl
  have q4 := size_str p.name
  obtain ⟨nk, hnk⟩ : ∃ nk, k + 1 = nk := ⟨_, rfl⟩
  have k1 : (k : Int) + 1 = (nk : Int) := by omega
  have k2 : (0 : Int) ≤ nk := by omega
  have k3 : (nk : Int) ≤ 9223372036854775807 := by omega
  have HK := Lib.hid (And.intro hnk hlt)
  clear hr hlt hk hnk
  by_cases d1 : 20 < p.name.length
  · have q1 : decide ((20 : Int) < (p.name.length : Int)) = true := by rw [decide_eq_true_eq]; omega
    have q1n : decide (20 < p.name.length) = true := decide_eq_true d1
    have hff : Hid (few7 t = false) := by
      show _ = _
      unfold few7
      rw [List.all_eq_false.2 ⟨p, List.mem_of_getElem? hx.out, by simp; omega⟩]
      rfl
    clear d1
    repeat (first | refine kw_seq ?_ | refine kw_block ?_ | refine kw_skip ?_ | refine kw_region ?_ | refine kl_nil ?_ | refine kq_then ?_ | refine kq_block ?_ | refine kw_exit ?_ | refine kq_then_exit ?_ | refine kq_block_here rfl ?_ | refine kq_block_far rfl ?_ | refine kq_again_exit ?_ | refine kw_ret ?_ | refine kq_then_ret ?_ | refine kq_block_ret ?_ | refine kq_again_ret ?_ | refine kw_ift rfl ?_ | refine kw_iff rfl ?_ | refine kl_ung rfl rfl ?_ | refine kl_skipg rfl rfl rfl rfl ?_ | refine kl_skipg0 rfl rfl rfl ?_ | (first | refine kl_move rfl rfl (.inl rfl) rfl rfl ?_ | refine kl_move rfl rfl (.inr rfl) rfl rfl ?_ | refine kl_const rfl rfl (.inl rfl) rfl ?_ | refine kl_const rfl rfl (.inr rfl) rfl ?_) | ((first | refine kl_step rfl rfl rfl fun K hK => ?_ | refine kl_step0 rfl rfl rfl fun K hK => ?_); go_simp; (try go_bits); (first | refine hK _ _ ?_ | refine hK _ ?_); clear hK K))
    exact kq_ret1 rfl rfl ⟨by rw [hff.out], HB.out⟩
  have q1 : decide ((20 : Int) < (p.name.length : Int)) = false := by rw [decide_eq_false_iff_not]; omega
  have q1n : decide (20 < p.name.length) = false := decide_eq_false d1
  have hf' : Hid ((t.fields.take nk).all (fun f => decide (f.name.length ≤ 20)) = true) := by
    show _ = _
    rw [← HK.out.1, ht.out, List.all_append, hf.out]
    simp; omega
  clear d1 ht hx
  repeat (first | refine kw_seq ?_ | refine kw_block ?_ | refine kw_region ?_ | refine kl_nil ?_ | refine kq_then ?_ | refine kq_block ?_ | refine kw_ift rfl ?_ | refine kw_iff rfl ?_ | refine kw_skip ?_ | refine kl_ung rfl rfl ?_ | refine kl_skipg rfl rfl rfl rfl ?_ | (first | refine kl_move rfl rfl (.inl rfl) rfl rfl ?_ | refine kl_move rfl rfl (.inr rfl) rfl rfl ?_ | refine kl_const rfl rfl (.inl rfl) rfl ?_ | refine kl_const rfl rfl (.inr rfl) rfl ?_) | ((first | refine kl_step rfl rfl rfl fun K hK => ?_ | refine kl_step0 rfl rfl rfl fun K hK => ?_); go_simp; (try go_bits); (first | refine hK _ _ ?_ | refine hK _ ?_); clear hK K))
  refine kq_again (fn - nk) [1, 3] (by have := HK.out; omega) ?_
  exact ⟨nk, by have := HK.out; omega, rfl, rfl, hf', rfl⟩
set_option maxRecDepth 100000 in
set_option maxHeartbeats 2000000 in
theorem few8_any (A : Option Addr) (n c : Nat) (l : List SymA) (w : World) (hA : Syms w A n l) (hn : n ≤ c) (hc : c ≤ 9223372036854775807) :
    Calls Try.prog 26 #[.slice A n c] w fun e w' => e = .returned (.bool (few8 l)) ∧ Below w.heap.size w w' := by
  have HL := Lib.hid hA.row.len
  have m0 : (n : Int) ≤ 9223372036854775807 := by omega
  refine calls_kw Try.func26 rfl Try.ntmps26 rfl [(0, .slice A n c)] rfl ?_
  repeat (first | refine kw_seq ?_ | refine kw_region ?_ | refine kl_nil ?_ | refine kq_then ?_ | (first | refine kl_move rfl rfl (.inl rfl) rfl rfl ?_ | refine kl_move rfl rfl (.inr rfl) rfl rfl ?_ | refine kl_const rfl rfl (.inl rfl) rfl ?_ | refine kl_const rfl rfl (.inr rfl) rfl ?_) | ((first | refine kl_step rfl rfl rfl fun K hK => ?_ | refine kl_step0 rfl rfl rfl fun K hK => ?_); go_simp; (try go_bits); (first | refine hK _ _ ?_ | refine hK _ ?_); clear hK K))
  refine KW.less [0, 3] ?_
  simp only [nrm, lk, Nat.reduceBEq, cond_true, cond_false]
  refine kw_block ?_
  refine kw_loop (fun mm L W => ∃ k, k ≤ n ∧ mm = n - k ∧ Hid (Below w.heap.size w W) ∧ Hid ((l.take k).all (fun a => few8it a.s) = true) ∧ L = [(0, .slice A n c), (3, .int .i64 (k : Int))]) ⟨0, by omega, rfl, Below.refl _ _, rfl, rfl⟩ ?_
  rintro mm L W ⟨k, hk, rfl, hb, hf, rfl⟩
  by_cases hlt : k < n
  case neg =>
    obtain rfl : n = k := by omega
    rw [List.take_of_length_le (by rw [HL.out]; exact Nat.le_refl _)] at hf
    have t1 : decide ((n : Int) < (n : Int)) = false := by simp
    have t1n : decide (n < n) = false := by simp
    obtain ⟨bb, hbb⟩ : ∃ bb, decide (n ≤ 16) = bb := ⟨_, rfl⟩
    have t2 : decide ((n : Int) ≤ 16) = bb := by rw [← hbb, decide_eq_decide]; omega
    have t2n := hbb
    clear hbb hlt
    repeat (first | refine kw_seq ?_ | refine kw_block ?_ | refine kw_skip ?_ | refine kw_region ?_ | refine kl_nil ?_ | refine kq_then ?_ | refine kq_block ?_ | refine kw_exit ?_ | refine kq_then_exit ?_ | refine kq_block_here rfl ?_ | refine kq_block_far rfl ?_ | refine kq_again_exit ?_ | refine kw_ret ?_ | refine kq_then_ret ?_ | refine kq_block_ret ?_ | refine kq_again_ret ?_ | refine kw_ift rfl ?_ | refine kw_iff rfl ?_ | refine kl_ung rfl rfl ?_ | refine kl_skipg rfl rfl rfl rfl ?_ | refine kl_skipg0 rfl rfl rfl ?_ | (first | refine kl_move rfl rfl (.inl rfl) rfl rfl ?_ | refine kl_move rfl rfl (.inr rfl) rfl rfl ?_ | refine kl_const rfl rfl (.inl rfl) rfl ?_ | refine kl_const rfl rfl (.inr rfl) rfl ?_) | ((first | refine kl_step rfl rfl rfl fun K hK => ?_ | refine kl_step0 rfl rfl rfl fun K hK => ?_); go_simp; (try go_bits); (first | refine hK _ _ ?_ | refine hK _ ?_); clear hK K))
    exact kq_ret1 rfl rfl ⟨by unfold few8; rw [hf.out, HL.out, t2n, Bool.true_and], hb.out⟩
  have t1 : decide ((k : Int) < (n : Int)) = true := by rw [decide_eq_true_eq]; omega
  have t1n : decide (k < n) = true := decide_eq_true hlt
  have u0 : (0 : Int) ≤ k := by omega
  have u1 : (k : Int) < n := by omega
  obtain ⟨g, o, a, rfl, hr, ht, hx⟩ := hA.row.next hlt
  have HR0 : Hid (w.rangeAt g (o + k * 7) (symC a)) := hr
  have HM := Lib.hid (hA.mem a (List.mem_of_getElem? hx.out))
  have hil : a.s.init.length = a.im := by have := HM.out.init.1; simpa using this
  have c0 : W.cell? ⟨g, o + k * 7, none⟩ = some (.string ⟨a.s.name.toArray⟩) := Keeps.of_below hb.out _ _ (HR0.out 0 _ rfl)
  have q4 := size_str a.s.name
  have hrt : Hid (W.rangeAt g (o + k * 7 + 1) (typC a.s.typ a.FA a.fn a.fc)) := fun j u hu => by
    have : (symC a)[1 + j]? = some u := by
      match j, hu with
      | 0, hu => exact hu
      | 1, hu => exact hu
      | 2, hu => exact hu
      | 3, hu => exact hu
    have := Keeps.of_below hb.out _ _ (HR0.out (1 + j) u this)
    rwa [← Nat.add_assoc] at this
  obtain ⟨nk, hnk⟩ : ∃ nk, k + 1 = nk := ⟨_, rfl⟩
  have k1 : (k : Int) + 1 = (nk : Int) := by omega
  have k2 : (0 : Int) ≤ nk := by omega
  have k3 : (nk : Int) ≤ 9223372036854775807 := by omega
  have HK := Lib.hid (And.intro hnk hlt)
  have HIL := Lib.hid hil
  have hbad : few8it a.s = false → Hid (few8 l = false) := fun h => by
    show _ = _
    unfold few8
    rw [List.all_eq_false.2 ⟨a, List.mem_of_getElem? hx.out, by simp [h]⟩]
    rfl
  have HBAD := Lib.hid hbad
  have HT := Lib.hid ht.out
  clear hr hlt hk hnk hil hbad ht hx
  by_cases d1 : 20 < a.s.name.length
  · have q1 : decide ((20 : Int) < (a.s.name.length : Int)) = true := by rw [decide_eq_true_eq]; omega
    have q1n : decide (20 < a.s.name.length) = true := decide_eq_true d1
    have hff := HBAD.out (by unfold few8it; rw [decide_eq_false (by omega)]; rfl)
    clear d1
    repeat (first | refine kw_seq ?_ | refine kw_block ?_ | refine kw_skip ?_ | refine kw_region ?_ | refine kl_nil ?_ | refine kq_then ?_ | refine kq_block ?_ | refine kw_exit ?_ | refine kq_then_exit ?_ | refine kq_block_here rfl ?_ | refine kq_block_far rfl ?_ | refine kq_again_exit ?_ | refine kw_ret ?_ | refine kq_then_ret ?_ | refine kq_block_ret ?_ | refine kq_again_ret ?_ | refine kw_ift rfl ?_ | refine kw_iff rfl ?_ | refine kl_ung rfl rfl ?_ | refine kl_skipg rfl rfl rfl rfl ?_ | refine kl_skipg0 rfl rfl rfl ?_ | (first | refine kl_move rfl rfl (.inl rfl) rfl rfl ?_ | refine kl_move rfl rfl (.inr rfl) rfl rfl ?_ | refine kl_const rfl rfl (.inl rfl) rfl ?_ | refine kl_const rfl rfl (.inr rfl) rfl ?_) | ((first | refine kl_step rfl rfl rfl fun K hK => ?_ | refine kl_step0 rfl rfl rfl fun K hK => ?_); go_simp; (try go_bits); (first | refine hK _ _ ?_ | refine hK _ ?_); clear hK K))
    exact kq_ret1 rfl rfl ⟨by rw [hff.out], hb.out⟩
  have q1 : decide ((20 : Int) < (a.s.name.length : Int)) = false := by rw [decide_eq_false_iff_not]; omega
  have q1n : decide (20 < a.s.name.length) = false := decide_eq_false d1
  have HD1 := Lib.hid d1
  clear d1
  repeat (first | refine kw_seq ?_ | refine kw_block ?_ | refine kw_region ?_ | refine kl_nil ?_ | refine kq_then ?_ | refine kw_ift rfl ?_ | refine kw_skip ?_ | refine kl_ung rfl rfl ?_ | refine kl_load_mid 71 g _ _ _ hrt.out Try.underlying71 rfl (by rw [typSize]; rfl) rfl rfl rfl rfl rfl ?_ | (first | refine kl_move rfl rfl (.inl rfl) rfl rfl ?_ | refine kl_move rfl rfl (.inr rfl) rfl rfl ?_ | refine kl_const rfl rfl (.inl rfl) rfl ?_ | refine kl_const rfl rfl (.inr rfl) rfl ?_) | ((first | refine kl_step rfl rfl rfl fun K hK => ?_ | refine kl_step0 rfl rfl rfl fun K hK => ?_); go_simp; (try go_bits); (first | refine hK _ _ ?_ | refine hK _ ?_); clear hK K))
  refine kl_call rfl rfl rfl Try.func49 rfl (by kernel_rfl) rfl ?_
  refine Calls.mono (few7_any a.s.typ a.FA a.fn a.fc W (HM.out.typ.keep (.of_below hb.out))) ?_
  rintro e w5 ⟨rfl, hb5⟩
  refine ⟨_, rfl, ?_⟩
  have HB5 := Lib.hid (below_then hb.out hb5 hb.out.size)
  have c6 : w5.cell? ⟨g, o + k * 7 + 6, none⟩ = some (.slice a.IA a.im a.ic) := Keeps.of_below HB5.out _ _ (HR0.out 6 _ rfl)
  have m6 : (a.im : Int) ≤ 9223372036854775807 := by have := HM.out.le; have := HM.out.cap; omega
  clear hb hb5 c0 hrt
  cases h7 : few7 a.s.typ
  case false =>
    have hff := HBAD.out (by unfold few8it; rw [h7]; simp)
    clear h7
    repeat (first | refine kw_seq ?_ | refine kw_block ?_ | refine kw_skip ?_ | refine kw_region ?_ | refine kl_nil ?_ | refine kq_then ?_ | refine kq_block ?_ | refine kw_exit ?_ | refine kq_then_exit ?_ | refine kq_block_here rfl ?_ | refine kq_block_far rfl ?_ | refine kq_again_exit ?_ | refine kw_ret ?_ | refine kq_then_ret ?_ | refine kq_block_ret ?_ | refine kq_again_ret ?_ | refine kw_ift rfl ?_ | refine kw_iff rfl ?_ | refine kl_ung rfl rfl ?_ | refine kl_skipg rfl rfl rfl rfl ?_ | refine kl_skipg0 rfl rfl rfl ?_ | (first | refine kl_move rfl rfl (.inl rfl) rfl rfl ?_ | refine kl_move rfl rfl (.inr rfl) rfl rfl ?_ | refine kl_const rfl rfl (.inl rfl) rfl ?_ | refine kl_const rfl rfl (.inr rfl) rfl ?_) | ((first | refine kl_step rfl rfl rfl fun K hK => ?_ | refine kl_step0 rfl rfl rfl fun K hK => ?_); go_simp; (try go_bits); (first | refine hK _ _ ?_ | refine hK _ ?_); clear hK K))
    exact kq_ret1 rfl rfl ⟨by rw [hff.out], HB5.out⟩
  by_cases d2 : 40 < a.im
  · have q2 : decide ((40 : Int) < (a.im : Int)) = true := by rw [decide_eq_true_eq]; omega
    have q2n : decide (40 < a.im) = true := decide_eq_true d2
    have hff := HBAD.out (by unfold few8it; rw [HIL.out, decide_eq_false (p := a.im ≤ 40) (by omega)]; simp)
    clear d2 h7
    repeat (first | refine kw_seq ?_ | refine kw_block ?_ | refine kw_skip ?_ | refine kw_region ?_ | refine kl_nil ?_ | refine kq_then ?_ | refine kq_block ?_ | refine kw_exit ?_ | refine kq_then_exit ?_ | refine kq_block_here rfl ?_ | refine kq_block_far rfl ?_ | refine kq_again_exit ?_ | refine kw_ret ?_ | refine kq_then_ret ?_ | refine kq_block_ret ?_ | refine kq_again_ret ?_ | refine kw_ift rfl ?_ | refine kw_iff rfl ?_ | refine kl_ung rfl rfl ?_ | refine kl_skipg rfl rfl rfl rfl ?_ | refine kl_skipg0 rfl rfl rfl ?_ | (first | refine kl_move rfl rfl (.inl rfl) rfl rfl ?_ | refine kl_move rfl rfl (.inr rfl) rfl rfl ?_ | refine kl_const rfl rfl (.inl rfl) rfl ?_ | refine kl_const rfl rfl (.inr rfl) rfl ?_) | ((first | refine kl_step rfl rfl rfl fun K hK => ?_ | refine kl_step0 rfl rfl rfl fun K hK => ?_); go_simp; (try go_bits); (first | refine hK _ _ ?_ | refine hK _ ?_); clear hK K))
    exact kq_ret1 rfl rfl ⟨by rw [hff.out], HB5.out⟩
  have q2 : decide ((40 : Int) < (a.im : Int)) = false := by rw [decide_eq_false_iff_not]; omega
  have q2n : decide (40 < a.im) = false := decide_eq_false d2
  have hf' : Hid ((l.take nk).all (fun a => few8it a.s) = true) := by
    show _ = _
    rw [← HK.out.1, HT.out, List.all_append, hf.out]
    have := HD1.out
    simp [few8it, h7, HIL.out]; omega
  clear d2 h7
  repeat (first | refine kw_seq ?_ | refine kw_block ?_ | refine kw_region ?_ | refine kl_nil ?_ | refine kq_then ?_ | refine kq_block ?_ | refine kw_ift rfl ?_ | refine kw_iff rfl ?_ | refine kw_skip ?_ | refine kl_ung rfl rfl ?_ | refine kl_skipg rfl rfl rfl rfl ?_ | (first | refine kl_move rfl rfl (.inl rfl) rfl rfl ?_ | refine kl_move rfl rfl (.inr rfl) rfl rfl ?_ | refine kl_const rfl rfl (.inl rfl) rfl ?_ | refine kl_const rfl rfl (.inr rfl) rfl ?_) | ((first | refine kl_step rfl rfl rfl fun K hK => ?_ | refine kl_step0 rfl rfl rfl fun K hK => ?_); go_simp; (try go_bits); (first | refine hK _ _ ?_ | refine hK _ ?_); clear hK K))
  refine kq_again (n - nk) [0, 3] (by have := HK.out; omega) ?_
  exact ⟨nk, by have := HK.out; omega, rfl, HB5, hf', rfl⟩
end Go.Proofs.Ytcpifcdndhhmgaa
