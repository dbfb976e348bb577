/- SlotsWrong: the walk. -/
import Derived.Test.YtkncomkncfcecaaSlotKnown
import Derived.Test.YtkncomkncfcecaaShaRef
import Derived.Test.YtkncomkncfcecaaShaWord
import Derived.Test.YtkncomkncfcecaaKnL
import Derived.Test.YtkncomkncfcecaaKnF
set_option linter.unusedVariables false
set_option linter.unusedSimpArgs false
namespace Go.Proofs.Ytkncomkncfcecaa
open Go.RowKit
attribute [local go_sem] ev_tmp ev_const ev_func ev_global lk_hit lk_miss uponK_value uponK_skip look_tmp look_const look_global look_func valP_value
def imgB : List UInt8 := [105, 109, 97, 103, 101]
structure WInv (sl os : Nat) (h : List UInt8) (k : Nat) (f : FlashSt) : Prop where
  live : Live f
  own : Packed (readF f (2 + (sl : Int))) [imgB]
  oth : Packed (readF f (2 + (os : Int))) []
  marks : ∃ tl, Marks f (2 * k + 1) ([⟨1, sl, sha imgB⟩] ++ tl) ∧ ∀ e ∈ tl, e.slot = (sl : Int) ∧ e.sum = h ∨ e.slot = (os : Int)
theorem wrong_start (sl os : Nat) (h1 : sl < 2) (h2 : sl + os = 1) (h : List UInt8) : ∃ f1 f2, storeP newF sl imgB = (0, f1) ∧ markP f1 sl (sha imgB) = (0, f2) ∧ WInv sl os h 0 f2 := by
  obtain ⟨f1, e1, L1, P1, r1⟩ := store_ok newF live_new sl h1 imgB (by decide)
  have M1 : Marks f1 0 [] := marks_new.other fun i hi => r1 i (by omega) (by omega)
  obtain ⟨f2, t2, e2, L2, M2, z2, r2⟩ := M1.mark L1 (by omega) sl (by omega) (sha imgB) (length_sha imgB)
  have k1 : (2 : Int) + (sl : Int) = ((2 + sl : Nat) : Int) := by omega
  have k2 : (2 : Int) + (os : Int) = ((2 + os : Nat) : Int) := by omega
  refine ⟨f1, f2, e1, e2, L2, ?_, ?_, [], by simpa using M2, by simp⟩
  · rw [k1, r2 _ (by omega) (by omega), ← k1]; exact P1
  · rw [k2, r2 _ (by omega) (by omega), r1 _ (by omega) (by omega)]; exact packed_new _ (by omega)
theorem WInv.step {sl os : Nat} (h1 : sl < 2) (h2 : sl + os = 1) {h : List UInt8} (hh : h.length = 32) {k : Nat} {f : FlashSt} (I : WInv sl os h k f) (hk : k < 7) :
    ∃ f1 f2, markP f sl h = (0, f1) ∧ markP f1 os (sha imgB) = (0, f2) ∧ WInv sl os h (k + 1) f2 := by
  obtain ⟨L, P1, P2, tl, M, ht⟩ := I
  obtain ⟨f1, t1, e1, L1, M1, z1, r1⟩ := M.mark L (by omega) sl (by omega) h hh
  obtain ⟨f2, t2, e2, L2, M2, z2, r2⟩ := M1.mark L1 (by omega) os (by omega) (sha imgB) (length_sha imgB)
  obtain rfl := z1 (by omega)
  obtain rfl := z2 (by omega)
  have k1 : (2 : Int) + (sl : Int) = ((2 + sl : Nat) : Int) := by omega
  have k2 : (2 : Int) + (os : Int) = ((2 + os : Nat) : Int) := by omega
  refine ⟨f1, f2, e1, e2, L2, ?_, ?_, tl ++ [⟨((2 * k + 1 + 1 : Nat) : Int), sl, h⟩] ++ [⟨((2 * k + 1 + 1 + 1 : Nat) : Int), os, sha imgB⟩], ?_, fun e he => ?_⟩
  · rw [k1, r2 _ (by omega) (by omega), r1 _ (by omega) (by omega), ← k1]; exact P1
  · rw [k2, r2 _ (by omega) (by omega), r1 _ (by omega) (by omega), ← k2]; exact P2
  · have := M2
    simp only [List.drop_zero] at this
    rw [show 2 * (k + 1) + 1 = 2 * k + 1 + 1 + 1 by omega]
    simpa [List.append_assoc] using this
  · simp only [List.append_assoc, List.mem_append, List.mem_singleton] at he
    rcases he with he | rfl | rfl
    · exact ht e he
    · exact .inl ⟨rfl, rfl⟩
    · exact .inr rfl
theorem WInv.boot {sl os : Nat} (h1 : sl < 2) (h2 : sl + os = 1) {h : List UInt8} (hne : h ≠ sha imgB) {k : Nat} {f : FlashSt} (I : WInv sl os h k f) : bootP f = (⟨1, sl, sha imgB⟩, imgB) := by
  obtain ⟨L, P1, P2, tl, M, ht⟩ := I
  have hi : imageP f ⟨1, sl, sha imgB⟩ = (imgB, true) := by
    rw [image_one f _ (by show (sl : Int) ≠ 2; omega) imgB [] P1, if_pos rfl]
  have hno : ∀ e ∈ tl, (imageP f e).2 = false := fun e he => by
    rcases ht e he with ⟨a, b⟩ | a
    · rw [image_one f e (by omega) imgB [] (by rw [a]; exact P1), if_neg (by rw [b]; exact fun h => hne h.symm)]
    · rw [image_no f e (by omega) (by rw [a]; exact P2)]
  rw [M.boot]
  have hsk : ∀ l : List EntS, (∀ e ∈ l, (imageP f e).2 = false) → bootL f ([⟨1, sl, sha imgB⟩] ++ l) = bootL f [⟨1, sl, sha imgB⟩] := fun l hl => by
    unfold bootL
    rw [List.reverse_append, List.find?_append, List.find?_eq_none.2 (fun e he => by rw [hl e (List.mem_reverse.1 he)]; simp)]
    rfl
  rw [hsk tl hno]
  have := bootL_last f [] ⟨1, sl, sha imgB⟩ (by rw [hi])
  rw [List.nil_append] at this
  rw [this, hi]
set_option maxRecDepth 100000 in
set_option maxHeartbeats 4000000 in
theorem slotsWrong_top (z : Int) (h : List UInt8) (y : Int) (w : World) (_ : -9223372036854775808 ≤ z ∧ z ≤ 9223372036854775807) (hh : h.length = 32) (_ : -9223372036854775808 ≤ y ∧ y ≤ 9223372036854775807) :
    Calls Try.prog 6 #[.int .i64 z, .agg (bv h).toArray, .int .i64 y] w fun e w' => e = .returned (.bool true) ∧ Below w.heap.size w w' := by
  refine calls_kw Try.func6 rfl Try.ntmps6 rfl [(0, .int .i64 z), (1, .agg (bv h).toArray), (2, .int .i64 y)] rfl ?_
  refine kw_seq ?_
  refine kw_region ?_
  refine kl_boxL (Lay.start w) rfl rfl rfl rfl rfl ?_
  intro g4 w1 hg4 hb1 hL1
  have HL1 := Lib.hid hL1
  have HH := Lib.hid hh
  have HG4 : Hid (w.heap.size ≤ g4) := by show _ ≤ _; omega
  clear hL1 hh hb1 hg4
  repeat (first | refine kw_seq ?_ | refine kw_region ?_ | refine kl_nil ?_ | refine kq_then ?_ | refine kw_iff rfl ?_ | refine kw_skip ?_ | refine kw_block ?_ | refine kl_ung rfl rfl ?_ | refine kl_skipg rfl rfl rfl rfl ?_ | (first | refine kl_move rfl rfl (.inl rfl) rfl rfl ?_ | refine kl_move rfl rfl (.inr rfl) rfl rfl ?_ | refine kl_const rfl rfl (.inl rfl) rfl ?_ | refine kl_const rfl rfl (.inr rfl) rfl ?_) | ((first | refine kl_step rfl rfl rfl fun K hK => ?_ | refine kl_step0 rfl rfl rfl fun K hK => ?_); go_simp; (try go_bits); (first | refine hK _ _ ?_ | refine hK _ ?_); clear hK K))
  refine kl_call rfl rfl rfl Try.func10 rfl (by kernel_rfl) rfl ?_
  refine Calls.mono (known6_any w1) ?_
  rintro e w2 ⟨rfl, hb2⟩
  refine ⟨_, rfl, ?_⟩
  have HL2 := Lib.hid (HL1.out.next hb2)
  clear HL1 hb2
  repeat (first | refine kw_seq ?_ | refine kw_region ?_ | refine kl_nil ?_ | refine kq_then ?_ | refine kw_iff rfl ?_ | refine kw_skip ?_ | refine kw_block ?_ | refine kl_ung rfl rfl ?_ | refine kl_skipg rfl rfl rfl rfl ?_ | (first | refine kl_move rfl rfl (.inl rfl) rfl rfl ?_ | refine kl_move rfl rfl (.inr rfl) rfl rfl ?_ | refine kl_const rfl rfl (.inl rfl) rfl ?_ | refine kl_const rfl rfl (.inr rfl) rfl ?_) | ((first | refine kl_step rfl rfl rfl fun K hK => ?_ | refine kl_step0 rfl rfl rfl fun K hK => ?_); go_simp; (try go_bits); (first | refine hK _ _ ?_ | refine hK _ ?_); clear hK K))
  refine kl_call rfl rfl rfl Try.func11 rfl (by kernel_rfl) rfl ?_
  refine Calls.mono (within6_any z 5 5 w2 rfl (by omega) (by omega)) ?_
  rintro e _ ⟨rfl, rfl⟩
  refine ⟨_, rfl, ?_⟩
  repeat (first | refine kw_seq ?_ | refine kw_region ?_ | refine kl_nil ?_ | refine kq_then ?_ | refine kw_iff rfl ?_ | refine kw_skip ?_ | refine kw_block ?_ | refine kl_ung rfl rfl ?_ | refine kl_skipg rfl rfl rfl rfl ?_ | (first | refine kl_move rfl rfl (.inl rfl) rfl rfl ?_ | refine kl_move rfl rfl (.inr rfl) rfl rfl ?_ | refine kl_const rfl rfl (.inl rfl) rfl ?_ | refine kl_const rfl rfl (.inr rfl) rfl ?_) | ((first | refine kl_step rfl rfl rfl fun K hK => ?_ | refine kl_step0 rfl rfl rfl fun K hK => ?_); go_simp; (try go_bits); (first | refine hK _ _ ?_ | refine hK _ ?_); clear hK K))
  refine kl_call rfl rfl rfl Try.func11 rfl (by kernel_rfl) rfl ?_
  refine Calls.mono (within6_any y 2 2 w2 rfl (by omega) (by omega)) ?_
  rintro e _ ⟨rfl, rfl⟩
  refine ⟨_, rfl, ?_⟩
  have hn := within_lt z 5 (by omega)
  have hs := within_lt y 2 (by omega)
  obtain ⟨N, hN⟩ : ∃ N, within z 5 = N := ⟨_, rfl⟩
  obtain ⟨sl, hsl⟩ : ∃ sl, within y 2 = sl := ⟨_, rfl⟩
  rw [hN] at hn ⊢
  rw [hsl] at hs ⊢
  obtain ⟨os, hos⟩ : ∃ os, 1 - sl = os := ⟨_, rfl⟩
  have u1 : (1 : Int) - (sl : Int) = (os : Int) := by omega
  have u2 : (0 : Int) ≤ sl := by omega
  have u3 : (sl : Int) ≤ 1 := by omega
  have HS : Hid (sl < 2 ∧ sl + os = 1 ∧ N < 5) := by show _ ∧ _; omega
  have HSI : Hid (I64 (sl : Int)) := by show I64 _; unfold I64; omega
  have HOI : Hid (I64 (os : Int)) := by show I64 _; unfold I64; omega
  clear hN hsl hos hn hs
  repeat (first | refine kw_seq ?_ | refine kw_region ?_ | refine kl_nil ?_ | refine kq_then ?_ | refine kw_iff rfl ?_ | refine kw_skip ?_ | refine kw_block ?_ | refine kl_ung rfl rfl ?_ | refine kl_skipg rfl rfl rfl rfl ?_ | (first | refine kl_move rfl rfl (.inl rfl) rfl rfl ?_ | refine kl_move rfl rfl (.inr rfl) rfl rfl ?_ | refine kl_const rfl rfl (.inl rfl) rfl ?_ | refine kl_const rfl rfl (.inr rfl) rfl ?_) | ((first | refine kl_step rfl rfl rfl fun K hK => ?_ | refine kl_step0 rfl rfl rfl fun K hK => ?_); go_simp; (try go_bits); (first | refine hK _ _ ?_ | refine hK _ ?_); clear hK K))
  refine kl_convLit _ rfl rfl rfl rfl rfl rfl ?_
  have hB2 : Bs (w2.alloc (.cells (bv imgB).toArray 5 (5, 6))) (some ⟨w2.heap.size, 0, none⟩) 5 imgB := bs_mark w2 imgB (5, 6) rfl
  have hL3 := HL2.out.next ((Below.refl w2.heap.size w2).alloc (Nat.le_refl _) (.cells (bv imgB).toArray 5 (5, 6)))
  have HLT : Hid (g4 < w2.heap.size) := HL2.out.lt 0 rfl
  have hw3 : w2.alloc (.cells #[.int .u8 105, .int .u8 109, .int .u8 97, .int .u8 103, .int .u8 101] 5 (5, 6)) = w2.alloc (.cells (bv imgB).toArray 5 (5, 6)) := rfl
  show KL _ _ _ _ _ _ (w2.alloc (.cells #[.int .u8 105, .int .u8 109, .int .u8 97, .int .u8 103, .int .u8 101] 5 (5, 6)))
  rw [hw3]
  clear hw3
  obtain ⟨w3, hw3⟩ : ∃ w3, w2.alloc (.cells (bv imgB).toArray 5 (5, 6)) = w3 := ⟨_, rfl⟩
  rw [hw3] at hB2 hL3 ⊢
  obtain ⟨gi, hgi⟩ : ∃ gi, w2.heap.size = gi := ⟨_, rfl⟩
  rw [hgi] at hB2 HLT ⊢
  clear hgi HL2 hw3
  repeat (first | (first | refine kl_move rfl rfl (.inl rfl) rfl rfl ?_ | refine kl_move rfl rfl (.inr rfl) rfl rfl ?_ | refine kl_const rfl rfl (.inl rfl) rfl ?_ | refine kl_const rfl rfl (.inr rfl) rfl ?_) | refine kl_nil ?_)
  refine kq_then ?_
  refine kw_seq ?_
  have HB3 := Lib.hid hB2
  have HL3 := Lib.hid hL3
  clear hB2 hL3
  obtain ⟨bb, hbb⟩ : ∃ bb, (h == sha imgB) = bb := ⟨_, rfl⟩
  have he : ∀ W, (Op.equalIn 10000 29 (.agg (bv h).toArray) (.agg (bv (sha imgB)).toArray)).run Try.prog W = .ok bb W := fun W => by rw [eqH W _ _ HH.out (length_sha imgB), hbb]
  have HBB := Lib.hid hbb
  clear hbb
  have hR := (Hold.cons (HL3.out.at_ 0 rfl) (Hold.nil _)).below (Below.refl _ _).drew
  have HB4 := Lib.hid (HB3.out.below (Below.refl _ _).drew)
  have HL4 := Lib.hid (HL3.out.next (Below.refl _ _).drew)
  refine kw_seq ?_
  refine kw_region_f (Hold [(g4, .cells (bv h).toArray 29 (0, 0))]) [true, true, false, true] (by kernel_rfl) (by kernel_rfl) hR ?_
  clear HB3 HL3
  generalize w3.drew = w4 at *
  repeat (first | refine kf_nil ?_ | refine kf_ung rfl rfl ?_ | refine kf_skipg rfl rfl rfl rfl ?_ | refine kf_load_row 0 rfl Try.underlying29 rfl (hashSize h HH.out) rfl rfl rfl rfl rfl ?_ | (first | refine kf_move rfl rfl (.inl rfl) rfl rfl ?_ | refine kf_move rfl rfl (.inr rfl) rfl rfl ?_ | refine kf_const rfl rfl (.inl rfl) rfl ?_ | refine kf_const rfl rfl (.inr rfl) rfl ?_) | (refine kf_val rfl rfl rfl ?_; apply Exists.intro; refine And.intro (fun W hW N hN => ?_) ?_; · (go_simp; (try go_bits); exact hN)))
  refine kf_ch ?_
  refine kl_call rfl rfl rfl Try.func18 rfl (by kernel_rfl) rfl ?_
  refine Calls.mono (refSha_any (some ⟨gi, 0, none⟩) 5 5 imgB w4 HB4.out (by omega)) ?_
  rintro e w5 ⟨rfl, hb5⟩
  refine ⟨_, rfl, ?_⟩
  refine kl_nil ?_
  refine kq_f (hR.below hb5) ?_
  have HB5 := Lib.hid (HB4.out.below hb5)
  have HL5 := Lib.hid (HL4.out.next hb5)
  clear HB4 HL4 hR hb5
  repeat (first | refine kf_nil ?_ | refine kf_ung rfl rfl ?_ | refine kf_skipg rfl rfl rfl rfl ?_ | (first | refine kf_move rfl rfl (.inl rfl) rfl rfl ?_ | refine kf_move rfl rfl (.inr rfl) rfl rfl ?_ | refine kf_const rfl rfl (.inl rfl) rfl ?_ | refine kf_const rfl rfl (.inr rfl) rfl ?_) | (refine kf_val rfl rfl rfl ?_; apply Exists.intro; refine And.intro (fun W hW N hN => ?_) ?_; · (go_simp; (try go_bits); exact hN)))
  refine kq_then ?_
  clear he
  cases bb
  case true =>
    repeat (first | refine kw_seq ?_ | refine kw_block ?_ | refine kw_skip ?_ | refine kw_region ?_ | refine kl_nil ?_ | refine kq_then ?_ | refine kq_block ?_ | refine kw_exit ?_ | refine kq_then_exit ?_ | refine kq_block_here rfl ?_ | refine kq_block_far rfl ?_ | refine kq_again_exit ?_ | refine kw_ret ?_ | refine kq_then_ret ?_ | refine kq_block_ret ?_ | refine kq_again_ret ?_ | refine kw_ift rfl ?_ | refine kw_iff rfl ?_ | refine kl_ung rfl rfl ?_ | refine kl_skipg rfl rfl rfl rfl ?_ | refine kl_skipg0 rfl rfl rfl ?_ | (first | refine kl_move rfl rfl (.inl rfl) rfl rfl ?_ | refine kl_move rfl rfl (.inr rfl) rfl rfl ?_ | refine kl_const rfl rfl (.inl rfl) rfl ?_ | refine kl_const rfl rfl (.inr rfl) rfl ?_) | ((first | refine kl_step rfl rfl rfl fun K hK => ?_ | refine kl_step0 rfl rfl rfl fun K hK => ?_); go_simp; (try go_bits); (first | refine hK _ _ ?_ | refine hK _ ?_); clear hK K))
    exact kq_ret1 rfl rfl ⟨rfl, HL5.out.below⟩
  have HNE : Hid (h ≠ sha imgB) := by show _ ≠ _; intro h'; have := HBB.out; rw [h'] at this; simp at this
  obtain ⟨f1, f2, e1, e2, I0⟩ := wrong_start sl os HS.out.1 HS.out.2.1 h
  have E1 := Lib.hid e1
  have E2 := Lib.hid e2
  have I0h := Lib.hid I0
  clear HBB e1 e2 I0
  repeat (first | refine kw_seq ?_ | refine kw_region ?_ | refine kl_nil ?_ | refine kq_then ?_ | refine kw_iff rfl ?_ | refine kw_skip ?_ | refine kw_block ?_ | refine kl_ung rfl rfl ?_ | refine kl_skipg rfl rfl rfl rfl ?_ | (first | refine kl_move rfl rfl (.inl rfl) rfl rfl ?_ | refine kl_move rfl rfl (.inr rfl) rfl rfl ?_ | refine kl_const rfl rfl (.inl rfl) rfl ?_ | refine kl_const rfl rfl (.inr rfl) rfl ?_) | ((first | refine kl_step rfl rfl rfl fun K hK => ?_ | refine kl_step0 rfl rfl rfl fun K hK => ?_); go_simp; (try go_bits); (first | refine hK _ _ ?_ | refine hK _ ?_); clear hK K))
  refine kl_call rfl rfl rfl Try.func12 rfl (by kernel_rfl) rfl ?_
  refine Calls.mono (new_any w5) ?_
  rintro e w6 ⟨rfl, hf6, hb6⟩
  refine ⟨_, rfl, ?_⟩
  obtain ⟨g, hg⟩ : ∃ g, w5.heap.size = g := ⟨_, rfl⟩
  have hL6 := HL5.out.next hb6
  have HG : Hid (w.heap.size ≤ g) := by show _ ≤ _; have := HL5.out.below.size; omega
  have HN4 : Hid (g4 ≠ g) := by show _ ≠ _; have := HL5.out.lt 0 rfl; omega
  have HAW : Hid (0 < 5 → Away g (some ⟨gi, 0, none⟩)) := fun h0 x hx => by have := HB5.out.inQ h0 x hx; rw [hg] at this; exact Nat.ne_of_lt this
  rw [hg] at hf6 ⊢
  have hf6 : FS NoB w6 g newF := hf6
  have HB6 := Lib.hid (HB5.out.below hb6)
  have HL6 := Lib.hid hL6
  clear hg hb6 hL6 HB5 HL5
  repeat (first | refine kw_seq ?_ | refine kw_region ?_ | refine kl_nil ?_ | refine kq_then ?_ | refine kw_iff rfl ?_ | refine kw_skip ?_ | refine kw_block ?_ | refine kl_ung rfl rfl ?_ | refine kl_skipg rfl rfl rfl rfl ?_ | (first | refine kl_move rfl rfl (.inl rfl) rfl rfl ?_ | refine kl_move rfl rfl (.inr rfl) rfl rfl ?_ | refine kl_const rfl rfl (.inl rfl) rfl ?_ | refine kl_const rfl rfl (.inr rfl) rfl ?_) | ((first | refine kl_step rfl rfl rfl fun K hK => ?_ | refine kl_step0 rfl rfl rfl fun K hK => ?_); go_simp; (try go_bits); (first | refine hK _ _ ?_ | refine hK _ ?_); clear hK K))
  refine kl_call rfl rfl rfl Try.func17 rfl (by kernel_rfl) rfl ?_
  refine Calls.mono (store_any NoB g (noB g) newF sl (some ⟨gi, 0, none⟩) 5 5 imgB w6 hf6 HSI.out HB6.out HAW.out (by omega) (by omega)) ?_
  rintro e w7 ⟨rfl, hf7, hg7⟩
  refine ⟨_, rfl, ?_⟩
  rw [E1.out] at hf7 ⊢
  dsimp only at hf7 ⊢
  have HL7 := Lib.hid (HL6.out.grown hg7 HG.out (fun p hp => by simp at hp; subst hp; exact HN4.out))
  have HB7 := Lib.hid (HB6.out.grownKeep0 hg7 HAW.out)
  clear hg7 hf6 HL6 HB6
  repeat (first | refine kw_seq ?_ | refine kw_region ?_ | refine kl_nil ?_ | refine kq_then ?_ | refine kw_iff rfl ?_ | refine kw_skip ?_ | refine kw_block ?_ | refine kl_ung rfl rfl ?_ | refine kl_skipg rfl rfl rfl rfl ?_ | (first | refine kl_move rfl rfl (.inl rfl) rfl rfl ?_ | refine kl_move rfl rfl (.inr rfl) rfl rfl ?_ | refine kl_const rfl rfl (.inl rfl) rfl ?_ | refine kl_const rfl rfl (.inr rfl) rfl ?_) | ((first | refine kl_step rfl rfl rfl fun K hK => ?_ | refine kl_step0 rfl rfl rfl fun K hK => ?_); go_simp; (try go_bits); (first | refine hK _ _ ?_ | refine hK _ ?_); clear hK K))
  refine kl_call rfl rfl rfl Try.func18 rfl (by kernel_rfl) rfl ?_
  refine Calls.mono (refSha_any (some ⟨gi, 0, none⟩) 5 5 imgB w7 HB7.out (by omega)) ?_
  rintro e w8 ⟨rfl, hb8⟩
  refine ⟨_, rfl, ?_⟩
  have hf8 := hf7.below hb8
  have HL8 := Lib.hid (HL7.out.next hb8)
  have HB8 := Lib.hid (HB7.out.below hb8)
  clear hf7 HL7 HB7 hb8
  repeat (first | refine kw_seq ?_ | refine kw_region ?_ | refine kl_nil ?_ | refine kq_then ?_ | refine kw_iff rfl ?_ | refine kw_skip ?_ | refine kw_block ?_ | refine kl_ung rfl rfl ?_ | refine kl_skipg rfl rfl rfl rfl ?_ | (first | refine kl_move rfl rfl (.inl rfl) rfl rfl ?_ | refine kl_move rfl rfl (.inr rfl) rfl rfl ?_ | refine kl_const rfl rfl (.inl rfl) rfl ?_ | refine kl_const rfl rfl (.inr rfl) rfl ?_) | ((first | refine kl_step rfl rfl rfl fun K hK => ?_ | refine kl_step0 rfl rfl rfl fun K hK => ?_); go_simp; (try go_bits); (first | refine hK _ _ ?_ | refine hK _ ?_); clear hK K))
  refine kl_call rfl rfl rfl Try.func13 rfl (by kernel_rfl) rfl ?_
  refine Calls.mono (mark_any NoB g (noB g) f1 sl (sha imgB) w8 hf8 (length_sha _) HSI.out) ?_
  rintro e w9 ⟨rfl, hf9, hg9⟩
  refine ⟨_, rfl, ?_⟩
  rw [E2.out] at hf9 ⊢
  dsimp only at hf9 ⊢
  have HL9 := Lib.hid (HL8.out.grown hg9 HG.out (fun p hp => by simp at hp; subst hp; exact HN4.out))
  have HB9 := Lib.hid (HB8.out.grownKeep0 hg9 HAW.out)
  clear hg9 hf8 HL8 HB8
  repeat (first | refine kw_seq ?_ | refine kw_region ?_ | refine kl_nil ?_ | refine kq_then ?_ | refine kw_iff rfl ?_ | refine kw_skip ?_ | refine kl_ung rfl rfl ?_ | refine kl_skipg rfl rfl rfl rfl ?_ | (first | refine kl_move rfl rfl (.inl rfl) rfl rfl ?_ | refine kl_move rfl rfl (.inr rfl) rfl rfl ?_ | refine kl_const rfl rfl (.inl rfl) rfl ?_ | refine kl_const rfl rfl (.inr rfl) rfl ?_) | ((first | refine kl_step rfl rfl rfl fun K hK => ?_ | refine kl_step0 rfl rfl rfl fun K hK => ?_); go_simp; (try go_bits); (first | refine hK _ _ ?_ | refine hK _ ?_); clear hK K))
  clear E1 E2
  refine KW.less [0, 2, 4, 7, 8, 9] ?_
  simp only [nrm, lk, Nat.reduceBEq, cond_true, cond_false]
  refine kw_block ?_
  refine kw_loop (fun mm L W => ∃ i f, i ≤ N ∧ mm = N - i ∧ Hid (WInv sl os h i f) ∧ Hid (Lay w W [(g4, (bv h).toArray, 29)]) ∧ Hid (FS NoB W g f) ∧ Hid (Bs W (some ⟨gi, 0, none⟩) 5 imgB) ∧ L = [(0, .int .i64 (N : Int)), (2, .int .i64 (sl : Int)), (4, .pointer (some ⟨g4, 0, none⟩)), (7, .slice (some ⟨gi, 0, none⟩) 5 5), (8, .pointer (some ⟨g, 0, none⟩)), (9, .int .i64 (i : Int))]) ⟨0, f2, by omega, rfl, I0h, HL9, hf9, HB9, rfl⟩ ?_
  clear I0h HL9 hf9 HB9 f1 f2
  rintro mm L W ⟨i, f, hi, rfl, I, HL, HF, HB, rfl⟩
  by_cases hin : i < N
  case neg =>
    have t1 : decide ((i : Int) < (N : Int)) = false := by rw [decide_eq_false_iff_not]; omega
    have t1n : decide (i < N) = false := decide_eq_false hin
    have BE := Lib.hid (I.out.boot HS.out.1 HS.out.2.1 HNE.out)
    clear hin I HB
    repeat (first | refine kw_seq ?_ | refine kw_region ?_ | refine kl_nil ?_ | refine kq_then ?_ | refine kq_block ?_ | refine kw_iff rfl ?_ | refine kw_exit ?_ | refine kq_then_exit ?_ | refine kq_block_here rfl ?_ | refine kw_skip ?_ | (first | refine kl_move rfl rfl (.inl rfl) rfl rfl ?_ | refine kl_move rfl rfl (.inr rfl) rfl rfl ?_ | refine kl_const rfl rfl (.inl rfl) rfl ?_ | refine kl_const rfl rfl (.inr rfl) rfl ?_) | ((first | refine kl_step rfl rfl rfl fun K hK => ?_ | refine kl_step0 rfl rfl rfl fun K hK => ?_); go_simp; (try go_bits); (first | refine hK _ _ ?_ | refine hK _ ?_); clear hK K))
    have hL := HL.out
    have hF := HF.out
    refine kl_call rfl rfl rfl Try.func14 rfl (by kernel_rfl) rfl ?_
    refine Calls.mono (boot_any NoB g f W hF) ?_
    rintro e wb10 ⟨A10, n10, c10, rfl, hB10, hT10, hn10, hc10, hb10⟩
    refine ⟨_, rfl, ?_⟩
    rw [BE.out] at hB10 ⊢
    dsimp only at hB10 ⊢
    have hf10 := hF.below hb10
    have hL10 := hL.next hb10
    have hNB10 := hB10.len
    have HAW10 := Lib.hid (boot_away hf10 hB10 hT10)
    clear hT10
    clear hb10
    repeat (first | (first | refine kl_move rfl rfl (.inl rfl) rfl rfl ?_ | refine kl_move rfl rfl (.inr rfl) rfl rfl ?_ | refine kl_const rfl rfl (.inl rfl) rfl ?_ | refine kl_const rfl rfl (.inr rfl) rfl ?_) | ((first | refine kl_step rfl rfl rfl fun K hK => ?_ | refine kl_step0 rfl rfl rfl fun K hK => ?_); go_simp; (try go_bits); (first | refine hK _ _ ?_ | refine hK _ ?_); clear hK K))
    refine kl_varL (z := (entC entZ).toArray) (cells := (entC ⟨1, sl, sha imgB⟩).toArray) hL10 entZero (entInfo ⟨1, sl, sha imgB⟩ (length_sha imgB)) (by rw [List.size_toArray, List.size_toArray, entC_len entZ z32_len, entC_len ⟨1, sl, sha imgB⟩ (length_sha imgB)]) (ent_one ⟨1, sl, sha imgB⟩) rfl rfl rfl rfl rfl rfl rfl rfl rfl ?_
    intro ge10 wv10 hge10 hbv10 hL10'
    have hf10' := hf10.below hbv10
    have hB10' := hB10.keep (.of_below hbv10)
    have HNE10 : Hid (ge10 ≠ g) := by show _ ≠ _; have := hf10.lt; omega
    clear hge10 hbv10 hf10 hL10 hB10
    have q1 := row_seq (hL10'.at_ 0 rfl)
    have q2 := row_slot (hL10'.at_ 0 rfl)
    have k1 := convB (c := c10) hB10'
    have k2 : ((⟨imgB.toArray⟩ : ByteArray) == ⟨#[105, 109, 97, 103, 101]⟩) = true := by decide
    dsimp only at q1 q2
    have HL10 := Lib.hid hL10'
    clear hL hL10' hF hf10' hB10' HL HF hNB10
    repeat (first | refine kw_seq ?_ | refine kw_block ?_ | refine kw_skip ?_ | refine kw_region ?_ | refine kl_nil ?_ | refine kq_then ?_ | refine kq_block ?_ | refine kw_exit ?_ | refine kq_then_exit ?_ | refine kq_block_here rfl ?_ | refine kq_block_far rfl ?_ | refine kq_again_exit ?_ | refine kw_ret ?_ | refine kq_then_ret ?_ | refine kq_block_ret ?_ | refine kq_again_ret ?_ | refine kw_ift rfl ?_ | refine kw_iff rfl ?_ | refine kl_ung rfl rfl ?_ | refine kl_skipg rfl rfl rfl rfl ?_ | refine kl_skipg0 rfl rfl rfl ?_ | (first | refine kl_move rfl rfl (.inl rfl) rfl rfl ?_ | refine kl_move rfl rfl (.inr rfl) rfl rfl ?_ | refine kl_const rfl rfl (.inl rfl) rfl ?_ | refine kl_const rfl rfl (.inr rfl) rfl ?_) | ((first | refine kl_step rfl rfl rfl fun K hK => ?_ | refine kl_step0 rfl rfl rfl fun K hK => ?_); go_simp; (try go_bits); (first | refine hK _ _ ?_ | refine hK _ ?_); clear hK K))
    exact kq_ret1 rfl rfl ⟨by first | rfl | simp, HL10.out.below⟩
  have t1 : decide ((i : Int) < (N : Int)) = true := by rw [decide_eq_true_eq]; omega
  have t1n : decide (i < N) = true := decide_eq_true hin
  obtain ⟨i1, hi1⟩ : ∃ i1, i + 1 = i1 := ⟨_, rfl⟩
  have i3 : (i : Int) + 1 = (i1 : Int) := by omega
  have i4 : (0 : Int) ≤ i1 := by omega
  have i5 : (i1 : Int) ≤ 5 := by have := HS.out; omega
  obtain ⟨f1, f2, e1, e2, J2⟩ := I.out.step HS.out.1 HS.out.2.1 HH.out (by have := HS.out; omega)
  rw [hi1] at J2
  have E1 := Lib.hid e1
  have E2 := Lib.hid e2
  have I2 := Lib.hid J2
  have HI := Lib.hid (And.intro hi1 hin)
  have hf10 := HF.out
  have HL10 := HL
  have HB10 := HB
  clear HF HL HB e1 e2 I hi1 hin hi J2
  repeat (first | refine kw_seq ?_ | refine kw_block ?_ | refine kw_region ?_ | refine kl_nil ?_ | refine kq_then ?_ | refine kq_block ?_ | refine kw_ift rfl ?_ | refine kw_skip ?_ | refine kl_getL HL10.out 0 rfl Try.underlying29 rfl (hash_1 h HH.out) rfl rfl rfl rfl rfl ?_ | (first | refine kl_move rfl rfl (.inl rfl) rfl rfl ?_ | refine kl_move rfl rfl (.inr rfl) rfl rfl ?_ | refine kl_const rfl rfl (.inl rfl) rfl ?_ | refine kl_const rfl rfl (.inr rfl) rfl ?_) | ((first | refine kl_step rfl rfl rfl fun K hK => ?_ | refine kl_step0 rfl rfl rfl fun K hK => ?_); go_simp; (try go_bits); (first | refine hK _ _ ?_ | refine hK _ ?_); clear hK K))
  refine kl_call rfl rfl rfl Try.func13 rfl (by kernel_rfl) rfl ?_
  refine Calls.mono (mark_any NoB g (noB g) f sl h W hf10 HH.out HSI.out) ?_
  rintro e w11 ⟨rfl, hf11, hg11⟩
  refine ⟨_, rfl, ?_⟩
  rw [E1.out] at hf11 ⊢
  dsimp only at hf11 ⊢
  have HL11 := Lib.hid (HL10.out.grown hg11 HG.out (fun p hp => by simp at hp; subst hp; exact HN4.out))
  have HB11 := Lib.hid (HB10.out.grownKeep0 hg11 HAW.out)
  clear hg11 hf10 HL10 HB10
  repeat (first | refine kw_seq ?_ | refine kw_region ?_ | refine kl_nil ?_ | refine kq_then ?_ | refine kw_iff rfl ?_ | refine kw_skip ?_ | refine kw_block ?_ | refine kl_ung rfl rfl ?_ | refine kl_skipg rfl rfl rfl rfl ?_ | (first | refine kl_move rfl rfl (.inl rfl) rfl rfl ?_ | refine kl_move rfl rfl (.inr rfl) rfl rfl ?_ | refine kl_const rfl rfl (.inl rfl) rfl ?_ | refine kl_const rfl rfl (.inr rfl) rfl ?_) | ((first | refine kl_step rfl rfl rfl fun K hK => ?_ | refine kl_step0 rfl rfl rfl fun K hK => ?_); go_simp; (try go_bits); (first | refine hK _ _ ?_ | refine hK _ ?_); clear hK K))
  refine kl_call rfl rfl rfl Try.func18 rfl (by kernel_rfl) rfl ?_
  refine Calls.mono (refSha_any (some ⟨gi, 0, none⟩) 5 5 imgB w11 HB11.out (by omega)) ?_
  rintro e w12 ⟨rfl, hb12⟩
  refine ⟨_, rfl, ?_⟩
  have hf12 := hf11.below hb12
  have HL12 := Lib.hid (HL11.out.next hb12)
  have HB12 := Lib.hid (HB11.out.below hb12)
  clear hf11 HL11 HB11 hb12
  repeat (first | refine kw_seq ?_ | refine kw_region ?_ | refine kl_nil ?_ | refine kq_then ?_ | refine kw_iff rfl ?_ | refine kw_skip ?_ | refine kw_block ?_ | refine kl_ung rfl rfl ?_ | refine kl_skipg rfl rfl rfl rfl ?_ | (first | refine kl_move rfl rfl (.inl rfl) rfl rfl ?_ | refine kl_move rfl rfl (.inr rfl) rfl rfl ?_ | refine kl_const rfl rfl (.inl rfl) rfl ?_ | refine kl_const rfl rfl (.inr rfl) rfl ?_) | ((first | refine kl_step rfl rfl rfl fun K hK => ?_ | refine kl_step0 rfl rfl rfl fun K hK => ?_); go_simp; (try go_bits); (first | refine hK _ _ ?_ | refine hK _ ?_); clear hK K))
  refine kl_call rfl rfl rfl Try.func13 rfl (by kernel_rfl) rfl ?_
  refine Calls.mono (mark_any NoB g (noB g) f1 os (sha imgB) w12 hf12 (length_sha _) HOI.out) ?_
  rintro e w13 ⟨rfl, hf13, hg13⟩
  refine ⟨_, rfl, ?_⟩
  rw [E2.out] at hf13 ⊢
  dsimp only at hf13 ⊢
  have HL13 := Lib.hid (HL12.out.grown hg13 HG.out (fun p hp => by simp at hp; subst hp; exact HN4.out))
  have HB13 := Lib.hid (HB12.out.grownKeep0 hg13 HAW.out)
  clear hg13 hf12 HL12 HB12
  repeat (first | refine kw_seq ?_ | refine kw_block ?_ | refine kw_region ?_ | refine kl_nil ?_ | refine kq_then ?_ | refine kq_block ?_ | refine kw_iff rfl ?_ | refine kw_skip ?_ | refine kl_ung rfl rfl ?_ | (first | refine kl_move rfl rfl (.inl rfl) rfl rfl ?_ | refine kl_move rfl rfl (.inr rfl) rfl rfl ?_ | refine kl_const rfl rfl (.inl rfl) rfl ?_ | refine kl_const rfl rfl (.inr rfl) rfl ?_) | ((first | refine kl_step rfl rfl rfl fun K hK => ?_ | refine kl_step0 rfl rfl rfl fun K hK => ?_); go_simp; (try go_bits); (first | refine hK _ _ ?_ | refine hK _ ?_); clear hK K))
  refine kq_again (N - i1) [0, 2, 4, 7, 8, 9] (by have := HI.out; omega) ?_
  simp only [nrm, lk, Nat.reduceBEq, cond_true, cond_false]
  exact ⟨i1, f2, by have := HI.out; omega, rfl, I2, HL13, hf13, HB13, rfl⟩
end Go.Proofs.Ytkncomkncfcecaa
