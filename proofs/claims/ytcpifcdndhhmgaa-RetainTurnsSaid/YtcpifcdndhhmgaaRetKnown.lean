/- A number from 0 to n - 1: plainly. within of the law's package. No block at all. Checkpoints: the chapter's example. -/
import Derived.Test.YtcpifcdndhhmgaaLib
import Derived.Test.YtcpifcdndhhmgaaChecked
import Derived.Test.YtcpifcdndhhmgaaRetSave
import Derived.Test.YtcpifcdndhhmgaaRetL
import Derived.Test.YtcpifcdndhhmgaaRetEq
import Derived.Test.YtcpifcdndhhmgaaCrcSum
set_option linter.unusedVariables false
set_option linter.unusedSimpArgs false
namespace Go.Proofs.Ytcpifcdndhhmgaa
open Go.RowKit

theorem emod_neg_ (x n : Int) (h : x.tmod n < 0) (h0 : 0 < n) : x.tmod n + n = x % n := by
  have := Int.tmod_eq_emod (a := x) (b := n)
  have hb := Int.emod_lt_of_pos x h0
  have hc := Int.emod_nonneg x (Int.ne_of_gt h0)
  split at this <;> omega
theorem emod_pos_ (x n : Int) (h : 0 ≤ x.tmod n) (h0 : 0 < n) : x.tmod n = x % n := by
  have := Int.tmod_eq_emod (a := x) (b := n)
  have hb := Int.emod_lt_of_pos x h0
  have hc := Int.emod_nonneg x (Int.ne_of_gt h0)
  split at this <;> omega

/-- a number from 0 to n - 1 -/
def within (x : Int) (n : Nat) : Nat := (x % (n : Int)).toNat
theorem within_lt (x : Int) (n : Nat) (h : 0 < n) : within x n < n := by
  have := Int.emod_lt_of_pos x (show (0 : Int) < n by omega)
  have := Int.emod_nonneg x (show (n : Int) ≠ 0 by omega)
  unfold within; omega

end Go.Proofs.Ytcpifcdndhhmgaa
set_option linter.unusedVariables false
set_option linter.unusedSimpArgs false
namespace Go.Proofs.Ytcpifcdndhhmgaa
open Go.RowKit

theorem within_any (x : Int) (n : Nat) (N : Int) (w : World) (hN : N = n) (h0 : 0 < n) (hn : n ≤ 4294967296) :
    Calls Try.prog 9 #[.int .i64 x, .int .i64 N] w fun e w' => e = .returned (.int .i64 (within x n : Int)) ∧ w = w' := by
  subst hN
  have h0' : (0 : Int) < n := by omega
  have h1 : x.tmod n < n := Int.tmod_lt_of_pos x h0'
  have h2 : -(n : Int) < x.tmod n := by
    have := Int.tmod_eq_emod (a := x) (b := n)
    have hc := Int.emod_nonneg x (Int.ne_of_gt h0')
    split at this <;> omega
  have hm := Int.emod_nonneg x (Int.ne_of_gt h0')
  have hW : ((within x n : Nat) : Int) = x % n := by unfold within; omega
  clear hm
  rw [hW]
  clear hW
  go_enter Try.func9, Try.ntmps9
  go_wp2
  · go_ret
    exact ⟨ret_int (emod_neg_ x n (by assumption) h0'), rfl⟩
  · go_ret
    exact ⟨ret_int (emod_pos_ x n (by omega) h0'), rfl⟩
end Go.Proofs.Ytcpifcdndhhmgaa
set_option linter.unusedVariables false
set_option linter.unusedSimpArgs false
namespace Go.Proofs.Ytcpifcdndhhmgaa
def NoB : Nat → Prop := fun _ => False
theorem noB (g : Nat) : ∀ b, NoB b → b ≠ g := fun _ h => h.elim
end Go.Proofs.Ytcpifcdndhhmgaa
set_option linter.unusedVariables false
set_option linter.unusedSimpArgs false
namespace Go.Proofs.Ytcpifcdndhhmgaa
open Go.RowKit
attribute [local go_sem] ev_tmp ev_const ev_func ev_global lk_hit lk_miss uponK_value uponK_skip look_tmp look_const look_global look_func valP_value
def kx : KepS := ⟨[120], 4, 5⟩
theorem kx_ok : KepOk kx := ⟨by decide, by decide, by kernel_rfl⟩
theorem ck_one (n : Nat) (hn : n < 1000) : CkOk ((n + 1 : Nat) : Int) [kx] := ⟨by omega, by decide, fun k hk => by simp at hk; subst hk; exact kx_ok⟩
theorem kepOk_i64 {k : KepS} (h : KepOk k) : I64 k.kind ∧ I64 k.value := by
  have := mayK_kind h.may
  exact ⟨by unfold I64; omega, h.val⟩
theorem CkOk.kv {n : Int} {l : List KepS} (h : CkOk n l) : KepV l := ⟨fun k hk => (h.all k hk).path, fun k hk => (kepOk_i64 (h.all k hk)).1, fun k hk => (kepOk_i64 (h.all k hk)).2⟩
theorem save_first : ∃ f1, saveK newF [kx] = (0, f1) ∧ newK newF = (0, [], 4) ∧ ∃ s : Int, newK f1 = (1, [kx], s) := by
  obtain ⟨f1, h1, h2, h3, _⟩ := kepI_new.save live_new (by omega) [kx] (ck_one 0 (by omega)) (by decide)
  obtain ⟨s0, hs0, h0⟩ := kepI_new.new
  obtain ⟨s, hs, h4⟩ := h3.new
  have hz : newK newF = (0, [], 4) := by
    obtain ⟨s, o, c, hS, _⟩ := kepI_new
    exact hS.new0
  exact ⟨f1, h1, hz, s, h4⟩
set_option maxRecDepth 100000 in
set_option maxHeartbeats 2000000 in
theorem known16_any (w : World) : Calls Try.prog 8 #[] w fun e w' => e = .returned (.bool true) ∧ Below w.heap.size w w' := by
  obtain ⟨f1, hs1, hn0, s9, hn1⟩ := save_first
  have HS1 := Lib.hid hs1
  have HN0 := Lib.hid hn0
  have HN1 := Lib.hid hn1
  clear hs1 hn0 hn1
  refine calls_kw (args := []) Try.func8 rfl Try.ntmps8 rfl [] rfl ?_
  repeat (first | refine kw_seq ?_ | refine kw_region ?_ | refine kl_nil ?_ | refine kq_then ?_ | refine kw_iff rfl ?_ | refine kw_skip ?_ | refine kw_block ?_ | refine kl_ung rfl rfl ?_ | refine kl_skipg rfl rfl rfl rfl ?_ | (first | refine kl_move rfl rfl (.inl rfl) rfl rfl ?_ | refine kl_move rfl rfl (.inr rfl) rfl rfl ?_ | refine kl_const rfl rfl (.inl rfl) rfl ?_ | refine kl_const rfl rfl (.inr rfl) rfl ?_) | ((first | refine kl_step rfl rfl rfl fun K hK => ?_ | refine kl_step0 rfl rfl rfl fun K hK => ?_); go_simp; (try go_bits); (first | refine hK _ _ ?_ | refine hK _ ?_); clear hK K))
  refine kl_call rfl rfl rfl Try.func10 rfl (by kernel_rfl) rfl ?_
  refine Calls.mono (new_any w) ?_
  rintro e w1 ⟨rfl, hf1, hb1⟩
  refine ⟨_, rfl, ?_⟩
  obtain ⟨g, hg⟩ : ∃ g, w.heap.size = g := ⟨_, rfl⟩
  rw [hg] at hf1 ⊢
  have HG : Hid (w.heap.size ≤ g) := by show _ ≤ _; omega
  have hf1 : FS NoB w1 g newF := hf1
  have HG0 := Lib.hid hg
  have HB1 := Lib.hid hb1
  clear hg hb1
  repeat (first | refine kw_seq ?_ | refine kw_region ?_ | refine kl_nil ?_ | refine kq_then ?_ | refine kw_iff rfl ?_ | refine kw_skip ?_ | refine kw_block ?_ | refine kl_ung rfl rfl ?_ | refine kl_skipg rfl rfl rfl rfl ?_ | (first | refine kl_move rfl rfl (.inl rfl) rfl rfl ?_ | refine kl_move rfl rfl (.inr rfl) rfl rfl ?_ | refine kl_const rfl rfl (.inl rfl) rfl ?_ | refine kl_const rfl rfl (.inr rfl) rfl ?_) | ((first | refine kl_step rfl rfl rfl fun K hK => ?_ | refine kl_step0 rfl rfl rfl fun K hK => ?_); go_simp; (try go_bits); (first | refine hK _ _ ?_ | refine hK _ ?_); clear hK K))
  refine kl_call rfl rfl rfl Try.func12 rfl (by kernel_rfl) rfl ?_
  refine Calls.mono (loadK_any NoB g newF w1 hf1) ?_
  rintro e w2 ⟨A2, n2, c2, rfl, hk2, _, _, _, hb2⟩
  refine ⟨_, rfl, ?_⟩
  rw [HN0.out] at hk2 ⊢
  dsimp only at hk2 ⊢
  obtain rfl : n2 = 0 := hk2.len.symm
  have hf2 := hf1.below hb2
  have HB2 := Lib.hid (below_then HB1.out hb2 HB1.out.size)
  clear hf1 hb2 HB1 hk2
  repeat (first | refine kw_seq ?_ | refine kw_region ?_ | refine kl_nil ?_ | refine kq_then ?_ | refine kl_build 29 _ (kepC kx).toArray rfl rfl rfl (by rfl) (by rfl) (kepBuilt3 [120] 4 5) ?_ | refine kl_buildSlice_row (z := kepC kepZ) (cs := kepC kx) Try.underlying26 kepZero kepSize rfl (by omega) (by omega) rfl rfl rfl rfl rfl ?_ | (first | refine kl_move rfl rfl (.inl rfl) rfl rfl ?_ | refine kl_move rfl rfl (.inr rfl) rfl rfl ?_ | refine kl_const rfl rfl (.inl rfl) rfl ?_ | refine kl_const rfl rfl (.inr rfl) rfl ?_) | ((first | refine kl_step rfl rfl rfl fun K hK => ?_ | refine kl_step0 rfl rfl rfl fun K hK => ?_); go_simp; (try go_bits); (first | refine hK _ _ ?_ | refine hK _ ?_); clear hK K))
  have hr3 := rangeAt_new w2 (kepC kx).toArray 29 w2.heap.size rfl
  have hb3 : Below w2.heap.size w2 (w2.alloc (.cells (kepC kx).toArray 29)) := (Below.refl _ _).alloc (Nat.le_refl _) _
  have hf3 := hf2.below hb3
  have HB3 := Lib.hid (below_then HB2.out hb3 HB2.out.size)
  have hk3 : KeS (w2.alloc (.cells (kepC kx).toArray 29)) (some ⟨w2.heap.size, 0, none⟩) 1 [kx] := ⟨rfl, fun _ => ⟨_, _, rfl, fun i p hp => by
    match i, hp with
    | 0, hp => simp at hp; subst hp; exact hr3⟩⟩
  have hglt := hf2.lt
  clear hr3 hf2 HB2 hb3
  generalize w2.alloc (.cells (kepC kx).toArray 29) = w3 at hf3 HB3 hk3 ⊢
  generalize w2.heap.size = g3 at hk3 hglt ⊢
  have HK3 := Lib.hid hk3
  clear hk3
  repeat (first | refine kw_seq ?_ | refine kw_region ?_ | refine kl_nil ?_ | refine kq_then ?_ | refine kw_iff rfl ?_ | refine kw_skip ?_ | refine kw_block ?_ | refine kl_ung rfl rfl ?_ | refine kl_skipg rfl rfl rfl rfl ?_ | (first | refine kl_move rfl rfl (.inl rfl) rfl rfl ?_ | refine kl_move rfl rfl (.inr rfl) rfl rfl ?_ | refine kl_const rfl rfl (.inl rfl) rfl ?_ | refine kl_const rfl rfl (.inr rfl) rfl ?_) | ((first | refine kl_step rfl rfl rfl fun K hK => ?_ | refine kl_step0 rfl rfl rfl fun K hK => ?_); go_simp; (try go_bits); (first | refine hK _ _ ?_ | refine hK _ ?_); clear hK K))
  refine kl_call rfl rfl rfl Try.func11 rfl (by kernel_rfl) rfl ?_
  refine Calls.mono (saveK_any NoB g (noB g) newF (some ⟨g3, 0, none⟩) 1 1 [kx] w3 hf3 HK3.out (CkOk.kv (ck_one 0 (by omega)))) ?_
  rintro e w4 ⟨rfl, hf4, hg4⟩
  refine ⟨_, rfl, ?_⟩
  rw [HS1.out] at hf4 ⊢
  dsimp only at hf4 ⊢
  have HB4 := Lib.hid (below_grown HB3.out hg4 HB3.out.size HG.out)
  clear hg4 hf3 HB3 HK3 hglt
  repeat (first | refine kw_seq ?_ | refine kw_region ?_ | refine kl_nil ?_ | refine kq_then ?_ | refine kw_iff rfl ?_ | refine kw_skip ?_ | refine kw_block ?_ | refine kl_ung rfl rfl ?_ | refine kl_skipg rfl rfl rfl rfl ?_ | (first | refine kl_move rfl rfl (.inl rfl) rfl rfl ?_ | refine kl_move rfl rfl (.inr rfl) rfl rfl ?_ | refine kl_const rfl rfl (.inl rfl) rfl ?_ | refine kl_const rfl rfl (.inr rfl) rfl ?_) | ((first | refine kl_step rfl rfl rfl fun K hK => ?_ | refine kl_step0 rfl rfl rfl fun K hK => ?_); go_simp; (try go_bits); (first | refine hK _ _ ?_ | refine hK _ ?_); clear hK K))
  refine kl_call rfl rfl rfl Try.func12 rfl (by kernel_rfl) rfl ?_
  refine Calls.mono (loadK_any NoB g f1 w4 hf4) ?_
  rintro e w5 ⟨A5, n5, c5, rfl, hk5, _, hc5, _, hb5⟩
  refine ⟨_, rfl, ?_⟩
  rw [HN1.out] at hk5 ⊢
  dsimp only at hk5 ⊢
  obtain rfl : n5 = 1 := hk5.len.symm
  have HB5 := Lib.hid (below_then HB4.out hb5 HB4.out.size)
  obtain ⟨b, o, p, rfl, hra, _, hgt⟩ := hk5.next (k := 0) (by omega)
  obtain rfl : p = kx := by have := hgt.out; simp at this; exact this.symm
  have cx : w5.cell? ⟨b, o + 2, none⟩ = some (.int .i64 5) := by have := hra 2 (.int .i64 5) rfl; simpa using this
  clear hra hgt hk5 hf4 HB4 hb5
  repeat (first | refine kw_seq ?_ | refine kw_block ?_ | refine kw_skip ?_ | refine kw_region ?_ | refine kl_nil ?_ | refine kq_then ?_ | refine kq_block ?_ | refine kw_exit ?_ | refine kq_then_exit ?_ | refine kq_block_here rfl ?_ | refine kq_block_far rfl ?_ | refine kq_again_exit ?_ | refine kw_ret ?_ | refine kq_then_ret ?_ | refine kq_block_ret ?_ | refine kq_again_ret ?_ | refine kw_ift rfl ?_ | refine kw_iff rfl ?_ | refine kl_ung rfl rfl ?_ | refine kl_skipg rfl rfl rfl rfl ?_ | refine kl_skipg0 rfl rfl rfl ?_ | (first | refine kl_move rfl rfl (.inl rfl) rfl rfl ?_ | refine kl_move rfl rfl (.inr rfl) rfl rfl ?_ | refine kl_const rfl rfl (.inl rfl) rfl ?_ | refine kl_const rfl rfl (.inr rfl) rfl ?_) | ((first | refine kl_step rfl rfl rfl fun K hK => ?_ | refine kl_step0 rfl rfl rfl fun K hK => ?_); go_simp; (try go_bits); (first | refine hK _ _ ?_ | refine hK _ ?_); clear hK K))
  exact kq_ret1 rfl rfl ⟨rfl, by rw [← HG0.out]; exact HB5.out⟩
end Go.Proofs.Ytcpifcdndhhmgaa
