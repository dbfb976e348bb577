/- SlotsTurns: the walk. -/
import Derived.Test.YtkncomkncfcecaaSlotKnown
import Derived.Test.YtkncomkncfcecaaSlTurnP
import Derived.Test.YtkncomkncfcecaaCrcSum
set_option linter.unusedVariables false
set_option linter.unusedSimpArgs false
namespace Go.Proofs.Ytkncomkncfcecaa
open Go.RowKit
attribute [local go_sem] ev_tmp ev_const ev_func ev_global lk_hit lk_miss uponK_value uponK_skip look_tmp look_const look_global look_func valP_value
theorem u8_255 (x : UInt8) : ((x.toNat : Int) == 255) = (x == 255) := by
  have hx := byte_lt x
  by_cases h : x = 255
  · subst h; rfl
  · have hn : x.toNat ≠ 255 := fun e => h (UInt8.toNat_inj.1 e)
    rw [beq_eq_false_iff_ne.2 h, beq_eq_false_iff_ne]
    omega
theorem u8_255n (x : UInt8) : (x.toNat == 255) = (x == 255) := by
  rw [← u8_255]
  by_cases h : x.toNat = 255
  · rw [h]; rfl
  · rw [beq_eq_false_iff_ne.2 h, eq_comm, beq_eq_false_iff_ne]; omega
def allN (l : List UInt8) (p i : Nat) : Bool := ((l.drop (16 * p)).take i).all (· == 255)
theorem allN_next (l : List UInt8) (p i : Nat) (x : UInt8) (h : l[16 * p + i]? = some x) : allN l p (i + 1) = (allN l p i && (x == 255)) := by
  unfold allN
  rw [List.take_add_one, List.getElem?_drop, h]
  simp [List.all_append]
set_option maxRecDepth 100000 in
set_option maxHeartbeats 4000000 in
theorem blanks_any (A : Option Addr) (c : Nat) (l : List UInt8) (w : World) (hA : Bs w A 1024 l) (hc : 1024 ≤ c) :
    Calls Try.prog 15 #[.slice A 1024 c] w fun e w' => e = .returned (.int .i64 (blkN l 64 : Int)) ∧ w = w' := by
  have hl := hA.len
  obtain ⟨b, o, rfl, hcell⟩ := hA.2 (by omega)
  have HC : Hid (∀ i x, l[i]? = some x → w.cell? ⟨b, o + i, none⟩ = some (.int .u8 (x.toNat : Int))) := fun i x hx => hcell i _ (by simp [bv, hx])
  have HL := Lib.hid hl
  clear hA hcell hl
  refine calls_kw Try.func15 rfl Try.ntmps15 rfl [(0, .slice (some ⟨b, o, none⟩) 1024 c)] rfl ?_
  repeat (first | refine kw_seq ?_ | refine kw_region ?_ | refine kl_nil ?_ | refine kq_then ?_ | refine kw_iff rfl ?_ | refine kw_skip ?_ | refine kl_ung rfl rfl ?_ | refine kl_skipg rfl rfl rfl rfl ?_ | (first | refine kl_move rfl rfl (.inl rfl) rfl rfl ?_ | refine kl_move rfl rfl (.inr rfl) rfl rfl ?_ | refine kl_const rfl rfl (.inl rfl) rfl ?_ | refine kl_const rfl rfl (.inr rfl) rfl ?_) | ((first | refine kl_step rfl rfl rfl fun K hK => ?_ | refine kl_step0 rfl rfl rfl fun K hK => ?_); go_simp; (try go_bits); (first | refine hK _ _ ?_ | refine hK _ ?_); clear hK K))
  refine KW.less [0, 3, 4] ?_
  simp only [nrm, lk, Nat.reduceBEq, cond_true, cond_false]
  refine kw_block ?_
  refine kw_loop (fun mm L W => ∃ p t : Nat, p ≤ 64 ∧ mm = 64 - p ∧ t ≤ p ∧ Hid (blkN l p = t) ∧ w = W ∧ L = [(0, .slice (some ⟨b, o, none⟩) 1024 c), (3, .int .i64 (t : Int)), (4, .int .i64 (p : Int))]) ⟨0, 0, by omega, rfl, by omega, by show _ = _; rfl, rfl, rfl⟩ ?_
  rintro mm L W ⟨p, t, hp, rfl, htp, ht, rfl, rfl⟩
  by_cases hpl : p < 64
  case neg =>
    obtain rfl : p = 64 := by omega
    rw [ht.out]
    clear hpl ht htp hp
    repeat (first | refine kw_seq ?_ | refine kw_block ?_ | refine kw_skip ?_ | refine kw_region ?_ | refine kl_nil ?_ | refine kq_then ?_ | refine kq_block ?_ | refine kw_exit ?_ | refine kq_then_exit ?_ | refine kq_block_here rfl ?_ | refine kq_block_far rfl ?_ | refine kq_again_exit ?_ | refine kw_ret ?_ | refine kq_then_ret ?_ | refine kq_block_ret ?_ | refine kq_again_ret ?_ | refine kw_ift rfl ?_ | refine kw_iff rfl ?_ | refine kl_ung rfl rfl ?_ | refine kl_skipg rfl rfl rfl rfl ?_ | refine kl_skipg0 rfl rfl rfl ?_ | (first | refine kl_move rfl rfl (.inl rfl) rfl rfl ?_ | refine kl_move rfl rfl (.inr rfl) rfl rfl ?_ | refine kl_const rfl rfl (.inl rfl) rfl ?_ | refine kl_const rfl rfl (.inr rfl) rfl ?_) | ((first | refine kl_step rfl rfl rfl fun K hK => ?_ | refine kl_step0 rfl rfl rfl fun K hK => ?_); go_simp; (try go_bits); (first | refine hK _ _ ?_ | refine hK _ ?_); clear hK K))
    exact kq_ret1 rfl rfl ⟨rfl, rfl⟩
  have t1 : decide ((p : Int) < 64) = true := by rw [decide_eq_true_eq]; omega
  have t1n : decide (p < 64) = true := decide_eq_true hpl
  repeat (first | refine kw_seq ?_ | refine kw_region ?_ | refine kl_nil ?_ | refine kq_then ?_ | refine kw_ift rfl ?_ | refine kw_skip ?_ | (first | refine kl_move rfl rfl (.inl rfl) rfl rfl ?_ | refine kl_move rfl rfl (.inr rfl) rfl rfl ?_ | refine kl_const rfl rfl (.inl rfl) rfl ?_ | refine kl_const rfl rfl (.inr rfl) rfl ?_) | ((first | refine kl_step rfl rfl rfl fun K hK => ?_ | refine kl_step0 rfl rfl rfl fun K hK => ?_); go_simp; (try go_bits); (first | refine hK _ _ ?_ | refine hK _ ?_); clear hK K))
  refine kw_block ?_
  repeat (first | refine kw_seq ?_ | refine kw_region ?_ | refine kl_nil ?_ | refine kq_then ?_ | refine kw_ift rfl ?_ | refine kw_skip ?_ | (first | refine kl_move rfl rfl (.inl rfl) rfl rfl ?_ | refine kl_move rfl rfl (.inr rfl) rfl rfl ?_ | refine kl_const rfl rfl (.inl rfl) rfl ?_ | refine kl_const rfl rfl (.inr rfl) rfl ?_) | ((first | refine kl_step rfl rfl rfl fun K hK => ?_ | refine kl_step0 rfl rfl rfl fun K hK => ?_); go_simp; (try go_bits); (first | refine hK _ _ ?_ | refine hK _ ?_); clear hK K))
  refine KW.less [0, 3, 4, 5, 6] ?_
  simp only [nrm, lk, Nat.reduceBEq, cond_true, cond_false]
  clear t1 t1n
  refine kw_block ?_
  refine kw_loop (fun mm L W => ∃ (i : Nat) (bi : Bool), i ≤ 16 ∧ mm = 16 - i ∧ Hid (allN l p i = bi) ∧ w = W ∧ L = [(0, .slice (some ⟨b, o, none⟩) 1024 c), (3, .int .i64 (t : Int)), (4, .int .i64 (p : Int)), (5, .bool bi), (6, .int .i64 (i : Int))]) ⟨0, true, by omega, rfl, by show _ = _; rfl, rfl, rfl⟩ ?_
  rintro mm L W ⟨i, bi, hi, rfl, hbi, rfl, rfl⟩
  by_cases hil : i < 16
  case neg =>
    obtain rfl : i = 16 := by omega
    obtain ⟨p1, hp1⟩ : ∃ p1, p + 1 = p1 := ⟨_, rfl⟩
    have i3 : (p : Int) + 1 = (p1 : Int) := by omega
    have i4 : (0 : Int) ≤ p1 := by omega
    have i5 : (p1 : Int) ≤ 64 := by omega
    obtain ⟨t1, ht1⟩ : ∃ t1, t + 1 = t1 := ⟨_, rfl⟩
    have j3 : (t : Int) + 1 = (t1 : Int) := by omega
    have j4 : (0 : Int) ≤ t1 := by omega
    have j5 : (t1 : Int) ≤ 64 := by omega
    have hb2 : blkP l p = bi := hbi.out
    have hnx : blkN l p1 = if bi = true then t1 else t := by
      rw [← hp1]
      simp only [blkN]
      rw [ht.out, hb2]
      cases bi <;> simp <;> omega
    have HN := Lib.hid hnx
    have HP := Lib.hid (And.intro hp1 (And.intro hpl (And.intro htp ht1)))
    clear hbi hb2 hnx ht hil hi hp1 hpl htp ht1 hp
    cases bi
    · repeat (first | refine kw_seq ?_ | refine kw_region ?_ | refine kl_nil ?_ | refine kq_then ?_ | refine kq_block ?_ | refine kw_iff rfl ?_ | refine kw_exit ?_ | refine kq_then_exit ?_ | refine kq_block_here rfl ?_ | refine kw_skip ?_ | (first | refine kl_move rfl rfl (.inl rfl) rfl rfl ?_ | refine kl_move rfl rfl (.inr rfl) rfl rfl ?_ | refine kl_const rfl rfl (.inl rfl) rfl ?_ | refine kl_const rfl rfl (.inr rfl) rfl ?_) | ((first | refine kl_step rfl rfl rfl fun K hK => ?_ | refine kl_step0 rfl rfl rfl fun K hK => ?_); go_simp; (try go_bits); (first | refine hK _ _ ?_ | refine hK _ ?_); clear hK K))
      refine kq_again (64 - p1) [0, 3, 4] (by have := HP.out; omega) ?_
      exact ⟨p1, t, by have := HP.out; omega, rfl, by have := HP.out; omega, HN, rfl, rfl⟩
    · repeat (first | refine kw_seq ?_ | refine kw_region ?_ | refine kl_nil ?_ | refine kq_then ?_ | refine kq_block ?_ | refine kw_iff rfl ?_ | refine kw_ift rfl ?_ | refine kw_exit ?_ | refine kq_then_exit ?_ | refine kq_block_here rfl ?_ | refine kw_skip ?_ | (first | refine kl_move rfl rfl (.inl rfl) rfl rfl ?_ | refine kl_move rfl rfl (.inr rfl) rfl rfl ?_ | refine kl_const rfl rfl (.inl rfl) rfl ?_ | refine kl_const rfl rfl (.inr rfl) rfl ?_) | ((first | refine kl_step rfl rfl rfl fun K hK => ?_ | refine kl_step0 rfl rfl rfl fun K hK => ?_); go_simp; (try go_bits); (first | refine hK _ _ ?_ | refine hK _ ?_); clear hK K))
      refine kq_again (64 - p1) [0, 3, 4] (by have := HP.out; omega) ?_
      exact ⟨p1, t1, by have := HP.out; omega, rfl, by have := HP.out; omega, HN, rfl, rfl⟩
  have t1 : decide ((i : Int) < 16) = true := by rw [decide_eq_true_eq]; omega
  have t1n : decide (i < 16) = true := decide_eq_true hil
  obtain ⟨i1, hi1⟩ : ∃ i1, i + 1 = i1 := ⟨_, rfl⟩
  have k3 : (i : Int) + 1 = (i1 : Int) := by omega
  have k4 : (0 : Int) ≤ i1 := by omega
  have k5 : (i1 : Int) ≤ 16 := by omega
  obtain ⟨q, hq⟩ : ∃ q, 16 * p + i = q := ⟨_, rfl⟩
  have hq2 : q < 1024 := by omega
  have m1 : (16 : Int) * (p : Int) + (i : Int) = (q : Int) := by omega
  have m2 : (0 : Int) ≤ 16 * (p : Int) := by omega
  have m3 : (16 : Int) * (p : Int) ≤ 1008 := by omega
  have m4 : (0 : Int) ≤ q := by omega
  have m5 : (q : Int) < 1024 := by omega
  have hx0 : l[q]? = some (l[q]'(by rw [HL.out]; exact hq2)) := List.getElem?_eq_getElem _
  obtain ⟨x, hx⟩ : ∃ x, l[q]'(by rw [HL.out]; exact hq2) = x := ⟨_, rfl⟩
  rw [hx] at hx0
  have cx := HC.out q x hx0
  have hnx := allN_next l p i x (by rw [hq]; exact hx0)
  rw [hbi.out, hi1] at hnx
  obtain ⟨bx, hbx⟩ : ∃ bx, (x == 255) = bx := ⟨_, rfl⟩
  have u1 := u8_255 x
  have u2 := u8_255n x
  rw [hbx] at u1 u2 hnx
  have HN := Lib.hid hnx
  have HI := Lib.hid (And.intro hi1 hil)
  clear hbi hnx hbx hx hx0 hq hi1 hil hi hq2
  cases bi
  · repeat (first | refine kw_seq ?_ | refine kw_block ?_ | refine kw_region ?_ | refine kl_nil ?_ | refine kq_then ?_ | refine kq_block ?_ | refine kw_ift rfl ?_ | refine kw_skip ?_ | refine kl_ung rfl rfl ?_ | refine kl_skipg rfl rfl rfl rfl ?_ | (first | refine kl_move rfl rfl (.inl rfl) rfl rfl ?_ | refine kl_move rfl rfl (.inr rfl) rfl rfl ?_ | refine kl_const rfl rfl (.inl rfl) rfl ?_ | refine kl_const rfl rfl (.inr rfl) rfl ?_) | ((first | refine kl_step rfl rfl rfl fun K hK => ?_ | refine kl_step0 rfl rfl rfl fun K hK => ?_); go_simp; (try go_bits); (first | refine hK _ _ ?_ | refine hK _ ?_); clear hK K))
    refine kq_again (16 - i1) [0, 3, 4, 5, 6] (by have := HI.out; omega) ?_
    exact ⟨i1, false, by have := HI.out; omega, rfl, HN, rfl, rfl⟩
  · repeat (first | refine kw_seq ?_ | refine kw_block ?_ | refine kw_region ?_ | refine kl_nil ?_ | refine kq_then ?_ | refine kq_block ?_ | refine kw_ift rfl ?_ | refine kw_skip ?_ | refine kl_ung rfl rfl ?_ | refine kl_skipg rfl rfl rfl rfl ?_ | (first | refine kl_move rfl rfl (.inl rfl) rfl rfl ?_ | refine kl_move rfl rfl (.inr rfl) rfl rfl ?_ | refine kl_const rfl rfl (.inl rfl) rfl ?_ | refine kl_const rfl rfl (.inr rfl) rfl ?_) | ((first | refine kl_step rfl rfl rfl fun K hK => ?_ | refine kl_step0 rfl rfl rfl fun K hK => ?_); go_simp; (try go_bits); (first | refine hK _ _ ?_ | refine hK _ ?_); clear hK K))
    refine kq_again (16 - i1) [0, 3, 4, 5, 6] (by have := HI.out; omega) ?_
    exact ⟨i1, bx, by have := HI.out; omega, rfl, HN, rfl, rfl⟩
end Go.Proofs.Ytkncomkncfcecaa
