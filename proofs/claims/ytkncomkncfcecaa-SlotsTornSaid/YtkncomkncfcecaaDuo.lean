/- Store of the document. within of the law's package. Records: the chapter's example. Both memories side by side: the code's at g, the document's at x. -/
import Derived.Test.YtkncomkncfcecaaSlotL
import Derived.Test.YtkncomkncfcecaaSlotMarkR
import Derived.Test.YtkncomkncfcecaaChecked
import Derived.Test.YtkncomkncfcecaaSlotKnown
import Derived.Test.YtkncomkncfcecaaRecApp
import Derived.Test.YtkncomkncfcecaaRecLaws
import Derived.Test.YtkncomkncfcecaaRecAppR
import Derived.Test.YtkncomkncfcecaaRefFlash2
import Derived.Test.YtkncomkncfcecaaCrcSum
set_option linter.unusedVariables false
set_option linter.unusedSimpArgs false
namespace Go.Proofs.Ytkncomkncfcecaa
open Go.RowKit
attribute [local go_sem] ev_tmp ev_const ev_func ev_global lk_hit lk_miss uponK_value uponK_skip look_tmp look_const look_global look_func valP_value
set_option maxRecDepth 100000 in
set_option maxHeartbeats 4000000 in
theorem storeR_any (Q : Nat → Prop) (g : Nat) (hQ : ∀ b, Q b → b ≠ g) (f : FlashSt) (slot : Int) (A : Option Addr) (n c : Nat) (b : List UInt8) (w : World) (h : RF Q w g f) (hsl : I64 slot) (hB : Bs w A n b) (haw : 0 < n → Away g A) (hn : n ≤ c) (hc9 : c ≤ 9223372036854775807) : Calls Try.prog 21 #[.pointer (some ⟨g, 0, none⟩), .int .i64 slot, .slice A n c] w (DoP RF Q g (storeP f slot b) w) := by
  unfold I64 at hsl
  have HB := Lib.hid hB
  have hbl := hB.len
  have HAW : Hid (0 < n → Away g A) := haw
  clear haw hB
  refine calls_kw Try.func21 rfl Try.ntmps21 rfl [(0, .pointer (some ⟨g, 0, none⟩)), (1, .int .i64 slot), (2, .slice A n c)] rfl ?_
  by_cases d1 : slot < 0
  · have t1 : decide (slot < 0) = true := decide_eq_true d1
    have HE := Lib.hid (store_arg (f := f) (b := b) (.inl d1))
    clear d1
    repeat (first | refine kw_seq ?_ | refine kw_block ?_ | refine kw_skip ?_ | refine kw_region ?_ | refine kl_nil ?_ | refine kq_then ?_ | refine kq_block ?_ | refine kw_exit ?_ | refine kq_then_exit ?_ | refine kq_block_here rfl ?_ | refine kq_block_far rfl ?_ | refine kq_again_exit ?_ | refine kw_ret ?_ | refine kq_then_ret ?_ | refine kq_block_ret ?_ | refine kq_again_ret ?_ | refine kw_ift rfl ?_ | refine kw_iff rfl ?_ | refine kl_ung rfl rfl ?_ | refine kl_skipg rfl rfl rfl rfl ?_ | refine kl_skipg0 rfl rfl rfl ?_ | (first | refine kl_move rfl rfl (.inl rfl) rfl rfl ?_ | refine kl_move rfl rfl (.inr rfl) rfl rfl ?_ | refine kl_const rfl rfl (.inl rfl) rfl ?_ | refine kl_const rfl rfl (.inr rfl) rfl ?_) | ((first | refine kl_step rfl rfl rfl fun K hK => ?_ | refine kl_step0 rfl rfl rfl fun K hK => ?_); go_simp; (try go_bits); (first | refine hK _ _ ?_ | refine hK _ ?_); clear hK K))
    exact kq_ret1 rfl rfl ⟨by rw [HE.out], by rw [HE.out]; exact h, grown_refl w _⟩
  have t1 : decide (slot < 0) = false := decide_eq_false d1
  by_cases d2 : 2 ≤ slot
  · have t2 : decide (1 < slot) = true := decide_eq_true (by omega)
    have HE := Lib.hid (store_arg (f := f) (b := b) (.inr d2))
    clear d1 d2
    repeat (first | refine kw_seq ?_ | refine kw_block ?_ | refine kw_skip ?_ | refine kw_region ?_ | refine kl_nil ?_ | refine kq_then ?_ | refine kq_block ?_ | refine kw_exit ?_ | refine kq_then_exit ?_ | refine kq_block_here rfl ?_ | refine kq_block_far rfl ?_ | refine kq_again_exit ?_ | refine kw_ret ?_ | refine kq_then_ret ?_ | refine kq_block_ret ?_ | refine kq_again_ret ?_ | refine kw_ift rfl ?_ | refine kw_iff rfl ?_ | refine kl_ung rfl rfl ?_ | refine kl_skipg rfl rfl rfl rfl ?_ | refine kl_skipg0 rfl rfl rfl ?_ | (first | refine kl_move rfl rfl (.inl rfl) rfl rfl ?_ | refine kl_move rfl rfl (.inr rfl) rfl rfl ?_ | refine kl_const rfl rfl (.inl rfl) rfl ?_ | refine kl_const rfl rfl (.inr rfl) rfl ?_) | ((first | refine kl_step rfl rfl rfl fun K hK => ?_ | refine kl_step0 rfl rfl rfl fun K hK => ?_); go_simp; (try go_bits); (first | refine hK _ _ ?_ | refine hK _ ?_); clear hK K))
    exact kq_ret1 rfl rfl ⟨by rw [HE.out], by rw [HE.out]; exact h, grown_refl w _⟩
  have t2 : decide (1 < slot) = false := decide_eq_false (by omega)
  have HSL : Hid (¬ (slot < 0 ∨ 2 ≤ slot)) := by show ¬ _; omega
  by_cases d3 : 1000 < n
  · have t3 : decide ((1000 : Int) < (n : Int)) = true := decide_eq_true (by omega)
    have t3n : decide (1000 < n) = true := decide_eq_true d3
    have HE := Lib.hid (store_long (f := f) (b := b) HSL.out (by omega))
    clear d1 d2 d3
    repeat (first | refine kw_seq ?_ | refine kw_block ?_ | refine kw_skip ?_ | refine kw_region ?_ | refine kl_nil ?_ | refine kq_then ?_ | refine kq_block ?_ | refine kw_exit ?_ | refine kq_then_exit ?_ | refine kq_block_here rfl ?_ | refine kq_block_far rfl ?_ | refine kq_again_exit ?_ | refine kw_ret ?_ | refine kq_then_ret ?_ | refine kq_block_ret ?_ | refine kq_again_ret ?_ | refine kw_ift rfl ?_ | refine kw_iff rfl ?_ | refine kl_ung rfl rfl ?_ | refine kl_skipg rfl rfl rfl rfl ?_ | refine kl_skipg0 rfl rfl rfl ?_ | (first | refine kl_move rfl rfl (.inl rfl) rfl rfl ?_ | refine kl_move rfl rfl (.inr rfl) rfl rfl ?_ | refine kl_const rfl rfl (.inl rfl) rfl ?_ | refine kl_const rfl rfl (.inr rfl) rfl ?_) | ((first | refine kl_step rfl rfl rfl fun K hK => ?_ | refine kl_step0 rfl rfl rfl fun K hK => ?_); go_simp; (try go_bits); (first | refine hK _ _ ?_ | refine hK _ ?_); clear hK K))
    exact kq_ret1 rfl rfl ⟨by rw [HE.out], by rw [HE.out]; exact h, grown_refl w _⟩
  have t3 : decide ((1000 : Int) < (n : Int)) = false := decide_eq_false (by omega)
  have t3n : decide (1000 < n) = false := decide_eq_false d3
  have HLN : Hid (¬ 1000 < b.length) := by show ¬ _; omega
  have d4 : 0 ≤ slot := by omega
  have d5 : slot ≤ 1 := by omega
  obtain ⟨sl2, hs2⟩ : ∃ sl2, 2 + slot = sl2 := ⟨_, rfl⟩
  have hsB : -9223372036854775808 ≤ sl2 ∧ sl2 ≤ 9223372036854775807 := by omega
  obtain ⟨r1, hr1⟩ : ∃ r1, eraseF f sl2 = r1 := ⟨_, rfl⟩
  have HR1 : Hid (eraseF f (2 + slot) = r1) := by show _ = _; rw [hs2]; exact hr1
  have HR1o := Lib.hid hr1
  have HS2 := Lib.hid hs2
  clear hr1 d1 d2 d3 hbl
  repeat (first | refine kw_seq ?_ | refine kw_block ?_ | refine kw_region ?_ | refine kl_nil ?_ | refine kq_then ?_ | refine kq_block ?_ | refine kw_iff rfl ?_ | refine kw_skip ?_ | refine kl_ung rfl rfl ?_ | refine kl_skipg rfl rfl rfl rfl ?_ | (first | refine kl_move rfl rfl (.inl rfl) rfl rfl ?_ | refine kl_move rfl rfl (.inr rfl) rfl rfl ?_ | refine kl_const rfl rfl (.inl rfl) rfl ?_ | refine kl_const rfl rfl (.inr rfl) rfl ?_) | ((first | refine kl_step rfl rfl rfl fun K hK => ?_ | refine kl_step0 rfl rfl rfl fun K hK => ?_); go_simp; (try go_bits); (first | refine hK _ _ ?_ | refine hK _ ?_); clear hK K))
  refine kl_call rfl rfl rfl Try.func43 rfl (by kernel_rfl) rfl ?_
  refine Calls.mono (refErase_any Q g hQ f sl2 w h) ?_
  rintro e w2 ⟨rfl, h2, hg2⟩
  refine ⟨_, rfl, ?_⟩
  rw [HR1o.out] at h2 ⊢
  have HB2 := Lib.hid (HB.out.grownKeep0 hg2 HAW.out)
  have HG2 := Lib.hid hg2
  clear hg2 HB h
  obtain ⟨e1, f1⟩ := r1
  dsimp only at h2 ⊢
  by_cases h0 : e1 = 0
  case neg =>
    have t5 : (e1 != 0) = true := bne_iff_ne.2 h0
    have HW := Lib.hid (store_1 HSL.out HLN.out HR1.out h0)
    clear h0
    repeat (first | refine kw_seq ?_ | refine kw_block ?_ | refine kw_skip ?_ | refine kw_region ?_ | refine kl_nil ?_ | refine kq_then ?_ | refine kq_block ?_ | refine kw_exit ?_ | refine kq_then_exit ?_ | refine kq_block_here rfl ?_ | refine kq_block_far rfl ?_ | refine kq_again_exit ?_ | refine kw_ret ?_ | refine kq_then_ret ?_ | refine kq_block_ret ?_ | refine kq_again_ret ?_ | refine kw_ift rfl ?_ | refine kw_iff rfl ?_ | refine kl_ung rfl rfl ?_ | refine kl_skipg rfl rfl rfl rfl ?_ | refine kl_skipg0 rfl rfl rfl ?_ | (first | refine kl_move rfl rfl (.inl rfl) rfl rfl ?_ | refine kl_move rfl rfl (.inr rfl) rfl rfl ?_ | refine kl_const rfl rfl (.inl rfl) rfl ?_ | refine kl_const rfl rfl (.inr rfl) rfl ?_) | ((first | refine kl_step rfl rfl rfl fun K hK => ?_ | refine kl_step0 rfl rfl rfl fun K hK => ?_); go_simp; (try go_bits); (first | refine hK _ _ ?_ | refine hK _ ?_); clear hK K))
    exact kq_ret1 rfl rfl ⟨by rw [HW.out], by rw [HW.out]; exact h2, HG2.out⟩
  subst h0
  have t5 : ((0 : Int) != 0) = false := rfl
  obtain ⟨r2, hr2⟩ : ∃ r2, appendP f1 sl2 b = r2 := ⟨_, rfl⟩
  have HR2o := Lib.hid hr2
  have HW : Hid (storeP f slot b = r2) := by
    show _ = _
    exact store_2 HSL.out HLN.out HR1.out rfl (by rw [HS2.out]; exact hr2)
  clear hr2
  repeat (first | refine kw_seq ?_ | refine kw_region ?_ | refine kl_nil ?_ | refine kq_then ?_ | refine kw_iff rfl ?_ | refine kw_skip ?_ | (first | refine kl_move rfl rfl (.inl rfl) rfl rfl ?_ | refine kl_move rfl rfl (.inr rfl) rfl rfl ?_ | refine kl_const rfl rfl (.inl rfl) rfl ?_ | refine kl_const rfl rfl (.inr rfl) rfl ?_) | ((first | refine kl_step rfl rfl rfl fun K hK => ?_ | refine kl_step0 rfl rfl rfl fun K hK => ?_); go_simp; (try go_bits); (first | refine hK _ _ ?_ | refine hK _ ?_); clear hK K))
  refine kl_call rfl rfl rfl Try.func44 rfl (by kernel_rfl) rfl ?_
  refine Calls.mono (appendR_any Q g hQ f1 sl2 A n c b w2 h2 hsB HB2.out hn hc9) ?_
  rintro e w3 ⟨rfl, h3, hg3⟩
  refine ⟨_, rfl, ?_⟩
  rw [HR2o.out] at h3 ⊢
  have HG3 := Lib.hid (grown_trans HG2.out hg3)
  clear hg3
  repeat (first | refine kw_seq ?_ | refine kw_block ?_ | refine kw_skip ?_ | refine kw_region ?_ | refine kl_nil ?_ | refine kq_then ?_ | refine kq_block ?_ | refine kw_exit ?_ | refine kq_then_exit ?_ | refine kq_block_here rfl ?_ | refine kq_block_far rfl ?_ | refine kq_again_exit ?_ | refine kw_ret ?_ | refine kq_then_ret ?_ | refine kq_block_ret ?_ | refine kq_again_ret ?_ | refine kw_ift rfl ?_ | refine kw_iff rfl ?_ | refine kl_ung rfl rfl ?_ | refine kl_skipg rfl rfl rfl rfl ?_ | refine kl_skipg0 rfl rfl rfl ?_ | (first | refine kl_move rfl rfl (.inl rfl) rfl rfl ?_ | refine kl_move rfl rfl (.inr rfl) rfl rfl ?_ | refine kl_const rfl rfl (.inl rfl) rfl ?_ | refine kl_const rfl rfl (.inr rfl) rfl ?_) | ((first | refine kl_step rfl rfl rfl fun K hK => ?_ | refine kl_step0 rfl rfl rfl fun K hK => ?_); go_simp; (try go_bits); (first | refine hK _ _ ?_ | refine hK _ ?_); clear hK K))
  exact kq_ret1 rfl rfl ⟨by rw [HW.out], by rw [HW.out]; exact h3, HG3.out⟩
end Go.Proofs.Ytkncomkncfcecaa
set_option linter.unusedVariables false
set_option linter.unusedSimpArgs false
namespace Go.Proofs.Ytkncomkncfcecaa
open Go.RowKit

end Go.Proofs.Ytkncomkncfcecaa
set_option linter.unusedVariables false
set_option linter.unusedSimpArgs false
namespace Go.Proofs.Ytkncomkncfcecaa
open Go.RowKit
attribute [local go_sem] ev_tmp ev_const ev_func ev_global lk_hit lk_miss uponK_value uponK_skip look_tmp look_const look_global look_func valP_value
end Go.Proofs.Ytkncomkncfcecaa
set_option linter.unusedVariables false
set_option linter.unusedSimpArgs false
namespace Go.Proofs.Ytkncomkncfcecaa
open Go.RowKit

def NeQ (g x : Nat) (b : Nat) : Prop := b ≠ g ∧ b ≠ x
structure Duo (w0 W : World) (g x : Nat) (f k : FlashSt) : Prop where
  fs : FS (NeQ g x) W g f
  rf : RF (NeQ g x) W x k
  ge : w0.heap.size ≤ g
  lt : g < x
  bel : Below w0.heap.size w0 W
section
variable {w0 W W' : World} {g x : Nat} {f k f1 : FlashSt}
theorem neq_g (b : Nat) (h : NeQ g x b) : b ≠ g := h.1
theorem neq_x (b : Nat) (h : NeQ g x b) : b ≠ x := h.2
theorem Duo.next (h : Duo w0 W g x f k) (hb : Below W.heap.size W W') : Duo w0 W' g x f k := ⟨h.fs.below hb, h.rf.below hb, h.ge, h.lt, below_then h.bel hb h.bel.size⟩
theorem Duo.fst (h : Duo w0 W g x f k) (hF : FS (NeQ g x) W' g f1) (hg : W.grownBy W' (some g)) : Duo w0 W' g x f1 k :=
  ⟨hF, h.rf.other hg (by have := h.lt; omega) neq_g, h.ge, h.lt, below_grown h.bel hg h.bel.size h.ge⟩
theorem Duo.snd (h : Duo w0 W g x f k) (hF : RF (NeQ g x) W' x f1) (hg : W.grownBy W' (some x)) : Duo w0 W' g x f f1 :=
  ⟨h.fs.other hg (by have := h.lt; omega) neq_x, hF, h.ge, h.lt, below_grown h.bel hg h.bel.size (by have := h.lt; have := h.ge; omega)⟩
theorem Duo.xlt (h : Duo w0 W g x f k) : x < W.heap.size := h.rf.lt
theorem Duo.fresh (h : Duo w0 W g x f k) : ∀ b, W.heap.size ≤ b → NeQ g x b := fun b hb => by have := h.rf.lt; have := h.lt; exact ⟨by omega, by omega⟩
theorem Duo.keeps (h : Duo w0 W g x f k) : Keeps w0 W := Keeps.of_below h.bel
theorem Duo.start (w0 w w1 w2 : World) (hb : Below w0.heap.size w0 w) (h1 : FS (fun _ => False) w1 w.heap.size f) (hb1 : Below w.heap.size w w1) (h2 : RF (fun _ => False) w2 w1.heap.size k) (hb2 : Below w1.heap.size w1 w2) : Duo w0 w2 w.heap.size w1.heap.size f k :=
  ⟨(h1.below hb2).weak fun _ h => h.elim, h2.weak fun _ h => h.elim, hb.size, h1.lt, below_then (below_then hb hb1 hb.size) hb2 (Nat.le_trans hb.size hb1.size)⟩
end
end Go.Proofs.Ytkncomkncfcecaa
