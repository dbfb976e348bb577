/- Records: the chapter's example. -/
import Derived.Test.YtblidiecahpekaaRecApp
import Derived.Test.YtblidiecahpekaaRecLaws
import Derived.Test.YtblidiecahpekaaWithin5
set_option linter.unusedVariables false
set_option linter.unusedSimpArgs false
namespace Go.Proofs.Ytblidiecahpekaa
open Go.RowKit
attribute [local go_sem] ev_tmp ev_const ev_func ev_global lk_hit lk_miss uponK_value uponK_skip look_tmp look_const look_global look_func valP_value
theorem ps_len {W : World} {A : Option Addr} {n : Nat} {ls : List (List UInt8)} (h : Ps W A n ls) : ls.length = n := h.1
theorem known_used : usedP [[1, 2]] = 1 := rfl
def NoB : Nat → Prop := fun _ => False
theorem noB (g : Nat) : ∀ b, NoB b → b ≠ g := fun _ h => h.elim
set_option maxRecDepth 100000 in
set_option maxHeartbeats 2000000 in
theorem known5_any (w : World) : Calls Try.prog 10 #[] w fun e w' => e = .returned (.bool true) ∧ Below w.heap.size w w' := by
  have hL0 := (packed_new 0 (by omega)).load
  obtain ⟨f1, ha1, hL1, hP1, _⟩ := append_packed newF live_new 0 (by omega) [] (packed_new 0 (by omega)) [1, 2] (by decide) (by decide)
  have hR1 := hP1.load
  rw [List.nil_append] at hR1
  rw [known_used] at hR1
  have HL0 := Lib.hid hL0
  have HA1 := Lib.hid ha1
  have HR1 := Lib.hid hR1
  clear hL0 ha1 hL1 hP1 hR1
  refine calls_kw (args := []) Try.func10 rfl Try.ntmps10 rfl [] rfl ?_
  repeat (first | refine kw_seq ?_ | refine kw_block ?_ | refine kw_skip ?_ | refine kw_region ?_ | refine kl_nil ?_ | refine kq_then ?_ | refine kq_block ?_ | refine kw_exit ?_ | refine kq_then_exit ?_ | refine kq_block_here rfl ?_ | refine kq_block_far rfl ?_ | refine kq_again_exit ?_ | refine kw_ret ?_ | refine kq_then_ret ?_ | refine kq_block_ret ?_ | refine kq_again_ret ?_ | refine kw_ift rfl ?_ | refine kw_iff rfl ?_ | refine kl_ung rfl rfl ?_ | refine kl_skipg rfl rfl rfl rfl ?_ | refine kl_skipg0 rfl rfl rfl ?_ | (first | refine kl_move rfl rfl (.inl rfl) rfl rfl ?_ | refine kl_move rfl rfl (.inr rfl) rfl rfl ?_ | refine kl_const rfl rfl (.inl rfl) rfl ?_ | refine kl_const rfl rfl (.inr rfl) rfl ?_) | ((first | refine kl_step rfl rfl rfl fun K hK => ?_ | refine kl_step0 rfl rfl rfl fun K hK => ?_); go_simp; (try go_bits); (first | refine hK _ _ ?_ | refine hK _ ?_); clear hK K))
  refine kl_call rfl rfl rfl Try.func14 rfl (by kernel_rfl) rfl ?_
  refine Calls.mono (new_any w) ?_
  rintro e w1 ⟨rfl, hf1, hb1⟩
  refine ⟨_, rfl, ?_⟩
  obtain ⟨g, hg⟩ : ∃ g, w.heap.size = g := ⟨_, rfl⟩
  rw [hg] at hf1 ⊢
  have HG := Lib.hid hg
  have hf1 : FS NoB w1 g newF := hf1
  clear hg
  repeat (first | refine kw_seq ?_ | refine kw_block ?_ | refine kw_skip ?_ | refine kw_region ?_ | refine kl_nil ?_ | refine kq_then ?_ | refine kq_block ?_ | refine kw_exit ?_ | refine kq_then_exit ?_ | refine kq_block_here rfl ?_ | refine kq_block_far rfl ?_ | refine kq_again_exit ?_ | refine kw_ret ?_ | refine kq_then_ret ?_ | refine kq_block_ret ?_ | refine kq_again_ret ?_ | refine kw_ift rfl ?_ | refine kw_iff rfl ?_ | refine kl_ung rfl rfl ?_ | refine kl_skipg rfl rfl rfl rfl ?_ | refine kl_skipg0 rfl rfl rfl ?_ | (first | refine kl_move rfl rfl (.inl rfl) rfl rfl ?_ | refine kl_move rfl rfl (.inr rfl) rfl rfl ?_ | refine kl_const rfl rfl (.inl rfl) rfl ?_ | refine kl_const rfl rfl (.inr rfl) rfl ?_) | ((first | refine kl_step rfl rfl rfl fun K hK => ?_ | refine kl_step0 rfl rfl rfl fun K hK => ?_); go_simp; (try go_bits); (first | refine hK _ _ ?_ | refine hK _ ?_); clear hK K))
  refine kl_call rfl rfl rfl Try.func16 rfl (by kernel_rfl) rfl ?_
  refine Calls.mono (load_any NoB g newF 0 w1 hf1) ?_
  rintro e w2 ⟨A1, n1, c1, rfl, hp1, _, _, hb2⟩
  refine ⟨_, rfl, ?_⟩
  have hn1 := ps_len hp1
  rw [show ((0 : Nat) : Int) = 0 from rfl] at HL0
  rw [HL0.out] at hn1 ⊢
  have hn1 : n1 = 0 := by simpa using hn1.symm
  subst hn1
  have hf2 := hf1.below hb2
  have hb12 := below_two hb1 hb2
  clear hp1 hf1 hb1 hb2
  repeat (first | refine kw_seq ?_ | refine kw_block ?_ | refine kw_skip ?_ | refine kw_region ?_ | refine kl_nil ?_ | refine kq_then ?_ | refine kq_block ?_ | refine kw_exit ?_ | refine kq_then_exit ?_ | refine kq_block_here rfl ?_ | refine kq_block_far rfl ?_ | refine kq_again_exit ?_ | refine kw_ret ?_ | refine kq_then_ret ?_ | refine kq_block_ret ?_ | refine kq_again_ret ?_ | refine kw_ift rfl ?_ | refine kw_iff rfl ?_ | refine kl_ung rfl rfl ?_ | refine kl_skipg rfl rfl rfl rfl ?_ | refine kl_skipg0 rfl rfl rfl ?_ | (first | refine kl_move rfl rfl (.inl rfl) rfl rfl ?_ | refine kl_move rfl rfl (.inr rfl) rfl rfl ?_ | refine kl_const rfl rfl (.inl rfl) rfl ?_ | refine kl_const rfl rfl (.inr rfl) rfl ?_) | ((first | refine kl_step rfl rfl rfl fun K hK => ?_ | refine kl_step0 rfl rfl rfl fun K hK => ?_); go_simp; (try go_bits); (first | refine hK _ _ ?_ | refine hK _ ?_); clear hK K))
  have hl : Bs (w2.alloc (.cells #[.int .u8 1, .int .u8 2] 5)) (some ⟨w2.heap.size, 0, none⟩) 2 [1, 2] := Bs.lit _ rfl [1, 2] rfl rfl
  have hf3 := hf2.below ((Below.refl _ _).alloc (Nat.le_refl w2.heap.size) (.cells #[.int .u8 1, .int .u8 2] 5))
  have hb13 := hb12.alloc hb12.size (.cells #[.int .u8 1, .int .u8 2] 5)
  generalize w2.alloc (.cells #[.int .u8 1, .int .u8 2] 5) = w3 at hl hf3 hb13 ⊢
  refine kl_call rfl rfl rfl Try.func15 rfl (by kernel_rfl) rfl ?_
  refine Calls.mono (append_any NoB g (noB g) newF 0 (some ⟨w2.heap.size, 0, none⟩) 2 2 [1, 2] w3 hf3 (by omega) hl (by omega) (by omega)) ?_
  rintro e w4 ⟨rfl, hf4, hg4⟩
  refine ⟨_, rfl, ?_⟩
  rw [show ((0 : Nat) : Int) = 0 from rfl] at HA1
  rw [HA1.out] at hf4 ⊢
  dsimp only at hf4 ⊢
  have hb14 := below_grown hb13 hg4 hb13.size (by have := HG.out; omega)
  clear hl hf3 hb13 hg4 hf2 hb12
  repeat (first | refine kw_seq ?_ | refine kw_block ?_ | refine kw_skip ?_ | refine kw_region ?_ | refine kl_nil ?_ | refine kq_then ?_ | refine kq_block ?_ | refine kw_exit ?_ | refine kq_then_exit ?_ | refine kq_block_here rfl ?_ | refine kq_block_far rfl ?_ | refine kq_again_exit ?_ | refine kw_ret ?_ | refine kq_then_ret ?_ | refine kq_block_ret ?_ | refine kq_again_ret ?_ | refine kw_ift rfl ?_ | refine kw_iff rfl ?_ | refine kl_ung rfl rfl ?_ | refine kl_skipg rfl rfl rfl rfl ?_ | refine kl_skipg0 rfl rfl rfl ?_ | (first | refine kl_move rfl rfl (.inl rfl) rfl rfl ?_ | refine kl_move rfl rfl (.inr rfl) rfl rfl ?_ | refine kl_const rfl rfl (.inl rfl) rfl ?_ | refine kl_const rfl rfl (.inr rfl) rfl ?_) | ((first | refine kl_step rfl rfl rfl fun K hK => ?_ | refine kl_step0 rfl rfl rfl fun K hK => ?_); go_simp; (try go_bits); (first | refine hK _ _ ?_ | refine hK _ ?_); clear hK K))
  refine kl_call rfl rfl rfl Try.func16 rfl (by kernel_rfl) rfl ?_
  refine Calls.mono (load_any NoB g f1 0 w4 hf4) ?_
  rintro e w5 ⟨A2, n2, c2, rfl, hp2, _, _, hb5⟩
  refine ⟨_, rfl, ?_⟩
  have hn2 := ps_len hp2
  rw [show ((0 : Nat) : Int) = 0 from rfl] at HR1
  rw [HR1.out] at hn2 ⊢
  have hn2 : n2 = 1 := by simpa using hn2.symm
  subst hn2
  have hb15 := below_then hb14 hb5 hb14.size
  clear hp2 hf4 hb14 hb5
  repeat (first | refine kw_seq ?_ | refine kw_block ?_ | refine kw_skip ?_ | refine kw_region ?_ | refine kl_nil ?_ | refine kq_then ?_ | refine kq_block ?_ | refine kw_exit ?_ | refine kq_then_exit ?_ | refine kq_block_here rfl ?_ | refine kq_block_far rfl ?_ | refine kq_again_exit ?_ | refine kw_ret ?_ | refine kq_then_ret ?_ | refine kq_block_ret ?_ | refine kq_again_ret ?_ | refine kw_ift rfl ?_ | refine kw_iff rfl ?_ | refine kl_ung rfl rfl ?_ | refine kl_skipg rfl rfl rfl rfl ?_ | refine kl_skipg0 rfl rfl rfl ?_ | (first | refine kl_move rfl rfl (.inl rfl) rfl rfl ?_ | refine kl_move rfl rfl (.inr rfl) rfl rfl ?_ | refine kl_const rfl rfl (.inl rfl) rfl ?_ | refine kl_const rfl rfl (.inr rfl) rfl ?_) | ((first | refine kl_step rfl rfl rfl fun K hK => ?_ | refine kl_step0 rfl rfl rfl fun K hK => ?_); go_simp; (try go_bits); (first | refine hK _ _ ?_ | refine hK _ ?_); clear hK K))
  refine kl_call rfl rfl rfl Try.func12 rfl (by kernel_rfl) rfl ?_
  refine Calls.mono (pages_all 10 w5 (by omega)) ?_
  rintro e _ ⟨rfl, rfl⟩
  refine ⟨_, rfl, ?_⟩
  rw [show pagesI 10 = 1 from by decide]
  repeat (first | refine kw_seq ?_ | refine kw_block ?_ | refine kw_skip ?_ | refine kw_region ?_ | refine kl_nil ?_ | refine kq_then ?_ | refine kq_block ?_ | refine kw_exit ?_ | refine kq_then_exit ?_ | refine kq_block_here rfl ?_ | refine kq_block_far rfl ?_ | refine kq_again_exit ?_ | refine kw_ret ?_ | refine kq_then_ret ?_ | refine kq_block_ret ?_ | refine kq_again_ret ?_ | refine kw_ift rfl ?_ | refine kw_iff rfl ?_ | refine kl_ung rfl rfl ?_ | refine kl_skipg rfl rfl rfl rfl ?_ | refine kl_skipg0 rfl rfl rfl ?_ | (first | refine kl_move rfl rfl (.inl rfl) rfl rfl ?_ | refine kl_move rfl rfl (.inr rfl) rfl rfl ?_ | refine kl_const rfl rfl (.inl rfl) rfl ?_ | refine kl_const rfl rfl (.inr rfl) rfl ?_) | ((first | refine kl_step rfl rfl rfl fun K hK => ?_ | refine kl_step0 rfl rfl rfl fun K hK => ?_); go_simp; (try go_bits); (first | refine hK _ _ ?_ | refine hK _ ?_); clear hK K))
  refine kl_call rfl rfl rfl Try.func12 rfl (by kernel_rfl) rfl ?_
  refine Calls.mono (pages_all 11 w5 (by omega)) ?_
  rintro e _ ⟨rfl, rfl⟩
  refine ⟨_, rfl, ?_⟩
  rw [show pagesI 11 = 2 from by decide]
  repeat (first | refine kw_seq ?_ | refine kw_block ?_ | refine kw_skip ?_ | refine kw_region ?_ | refine kl_nil ?_ | refine kq_then ?_ | refine kq_block ?_ | refine kw_exit ?_ | refine kq_then_exit ?_ | refine kq_block_here rfl ?_ | refine kq_block_far rfl ?_ | refine kq_again_exit ?_ | refine kw_ret ?_ | refine kq_then_ret ?_ | refine kq_block_ret ?_ | refine kq_again_ret ?_ | refine kw_ift rfl ?_ | refine kw_iff rfl ?_ | refine kl_ung rfl rfl ?_ | refine kl_skipg rfl rfl rfl rfl ?_ | refine kl_skipg0 rfl rfl rfl ?_ | (first | refine kl_move rfl rfl (.inl rfl) rfl rfl ?_ | refine kl_move rfl rfl (.inr rfl) rfl rfl ?_ | refine kl_const rfl rfl (.inl rfl) rfl ?_ | refine kl_const rfl rfl (.inr rfl) rfl ?_) | ((first | refine kl_step rfl rfl rfl fun K hK => ?_ | refine kl_step0 rfl rfl rfl fun K hK => ?_); go_simp; (try go_bits); (first | refine hK _ _ ?_ | refine hK _ ?_); clear hK K))
  exact kq_ret1 rfl rfl ⟨rfl, by rw [← HG.out]; exact hb15⟩
end Go.Proofs.Ytblidiecahpekaa
