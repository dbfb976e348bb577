/- Bytes of an entry: the code's and the document's. The document's flash memory: New, Stop. The document's flash memory: what a change leaves. -/
import Derived.Test.YtkncomkncfcecaaKnV
import Derived.Test.YtkncomkncfcecaaCodeText
import Derived.Test.YtkncomkncfcecaaKnOps
import Derived.Test.YtkncomkncfcecaaCrcSum
set_option linter.unusedVariables false
set_option linter.unusedSimpArgs false
namespace Go.Proofs.Ytkncomkncfcecaa
open Go.RowKit
attribute [local go_sem] ev_tmp ev_const ev_func ev_global lk_hit lk_miss uponK_value uponK_skip look_tmp look_const look_global look_func valP_value
theorem own_mono {w : World} {base base' : Nat} {e : TypeId} {size : Nat} {v : Value} {n : Nat} {xs : List Value} (h : w.ownsRow base e size v n xs) (hb : base' ≤ base) : w.ownsRow base' e size v n xs := by
  refine ⟨h.1, ?_⟩
  rcases h.2 with h2 | ⟨g, cap, cur, hv, hg, r⟩
  · exact .inl h2
  · exact .inr ⟨g, cap, cur, hv, Nat.le_trans hb hg, r⟩
theorem codeInt_B (A : Option Addr) (n c : Nat) (l : List UInt8) (x : Int) (w : World) (hA : Bs w A n l) (hn : n ≤ 1099511627776) (hx : I64 x) :
    Calls Try.prog 58 #[.slice A n c, .int .i64 x] w fun e w' => ∃ A' c', e = .returned (.slice A' (n + 8) c') ∧ Bs w' A' (n + 8) (l ++ le8 x) ∧ n + 8 ≤ c' ∧ c' ≤ 9223372036854775807 ∧ Below w.heap.size w w' :=
  Calls.mono (codeInt_any A n c l x w hA hn hx) fun e w' ⟨v, he, hown, hb⟩ => by
    obtain ⟨A', c', rfl, h1, h2, h3, _⟩ := own_slice hown
    exact ⟨A', c', he, h3, h1, by simpa [maxLen] using h2, hb⟩
theorem entBs {w : World} {b : Nat} {e : EntS} {t : TypeId} (h : w.heap[b]? = some (.cells (entC e).toArray t (0, 0))) (hs : e.sum.length = 32) : Bs w (some ⟨b, 2, none⟩) 32 e.sum := by
  refine ⟨by rw [length_bv]; exact hs, fun _ => ⟨b, 2, rfl, fun i u hu => cell_of_block h ?_⟩⟩
  rw [List.getElem?_toArray, ent_sum]; exact hu
def EBytesP (l : List UInt8) (w : World) (e : Ending) (w' : World) : Prop := ∃ v, e = .returned v ∧ w'.ownsRow w.heap.size 5 1 v 48 (bv l) ∧ Below w.heap.size w w'
set_option maxRecDepth 100000 in
set_option maxHeartbeats 1000000 in
theorem eBytes_any (e : EntS) (w : World) (hs : e.sum.length = 32) (h1 : I64 e.seq) (h2 : I64 e.slot) : Calls Try.prog 35 #[.agg (entC e).toArray] w (EBytesP (bytesE e) w) := by
  refine calls_kw Try.func35 rfl Try.ntmps35 rfl [(0, .agg (entC e).toArray)] rfl ?_
  refine kw_seq ?_
  refine kw_region ?_
  refine kl_boxL (Lay.start w) rfl rfl rfl rfl rfl ?_
  intro b w1 hb hb1 hL
  clear hb
  repeat (first | refine kw_seq ?_ | refine kl_nil ?_ | refine kq_then ?_ | (first | refine kl_move rfl rfl (.inl rfl) rfl rfl ?_ | refine kl_move rfl rfl (.inr rfl) rfl rfl ?_ | refine kl_const rfl rfl (.inl rfl) rfl ?_ | refine kl_const rfl rfl (.inr rfl) rfl ?_) | ((first | refine kl_step rfl rfl rfl fun K hK => ?_ | refine kl_step0 rfl rfl rfl fun K hK => ?_); go_simp; (try go_bits); (first | refine hK _ _ ?_ | refine hK _ ?_); clear hK K))
  have hB := Lib.hid (hL.at_ 0 rfl)
  have hR0 : Below w1.heap.size w1 w1.drew := (Below.refl _ _).drew
  have f0 := fun W (h : Below w1.heap.size w1 W) => Keeps.of_below h _ _ (hL.get 0 rfl (ent_0 e))
  have f1 := fun W (h : Below w1.heap.size w1 W) => Keeps.of_below h _ _ (hL.get 0 rfl (ent_1 e))
  refine kw_region_f (Below w1.heap.size w1) [true, true, false, true, true, false, true, true, false, false, true] (by kernel_rfl) (by kernel_rfl) hR0 ?_
  generalize w1.drew = w2 at hR0 ⊢
  repeat (first | refine kf_nil ?_ | refine kf_ung rfl rfl ?_ | refine kf_skipg rfl rfl rfl rfl ?_ | (first | refine kf_move rfl rfl (.inl rfl) rfl rfl ?_ | refine kf_move rfl rfl (.inr rfl) rfl rfl ?_ | refine kf_const rfl rfl (.inl rfl) rfl ?_ | refine kf_const rfl rfl (.inr rfl) rfl ?_) | (refine kf_val rfl rfl rfl ?_; apply Exists.intro; refine And.intro (fun W hW N hN => ?_) ?_; · (go_simp; (try go_bits); exact hN)))
  refine kf_ch ?_
  refine kl_call rfl rfl rfl Try.func58 rfl (by kernel_rfl) rfl ?_
  refine Calls.mono (codeInt_B none 0 0 [] e.seq _ (Vs.nil _ _) (by omega) h1) ?_
  rintro e w3 ⟨A3, c3, rfl, hB3, n3, m3, hb3⟩
  have hR3 := below_then hR0 hb3 hR0.size
  clear hR0 hb3
  refine ⟨_, rfl, ?_⟩
  refine kl_nil ?_
  refine kq_f hR3 ?_
  repeat (first | refine kf_nil ?_ | refine kf_ung rfl rfl ?_ | refine kf_skipg rfl rfl rfl rfl ?_ | (first | refine kf_move rfl rfl (.inl rfl) rfl rfl ?_ | refine kf_move rfl rfl (.inr rfl) rfl rfl ?_ | refine kf_const rfl rfl (.inl rfl) rfl ?_ | refine kf_const rfl rfl (.inr rfl) rfl ?_) | (refine kf_val rfl rfl rfl ?_; apply Exists.intro; refine And.intro (fun W hW N hN => ?_) ?_; · (go_simp; (try go_bits); exact hN)))
  refine kf_ch ?_
  refine kl_call rfl rfl rfl Try.func58 rfl (by kernel_rfl) rfl ?_
  refine Calls.mono (codeInt_B A3 (0 + 8) c3 _ e.slot _ hB3 (by omega) h2) ?_
  rintro e w4 ⟨A4, c4, rfl, hB4, n4, m4, hb4⟩
  have hR4 := below_then hR3 hb4 hR3.size
  clear hR3 hb4 hB3
  refine ⟨_, rfl, ?_⟩
  refine kl_nil ?_
  refine kq_f hR4 ?_
  repeat (first | refine kf_nil ?_ | refine kf_ung rfl rfl ?_ | refine kf_skipg rfl rfl rfl rfl ?_ | (first | refine kf_move rfl rfl (.inl rfl) rfl rfl ?_ | refine kf_move rfl rfl (.inr rfl) rfl rfl ?_ | refine kf_const rfl rfl (.inl rfl) rfl ?_ | refine kf_const rfl rfl (.inr rfl) rfl ?_) | (refine kf_val rfl rfl rfl ?_; apply Exists.intro; refine And.intro (fun W hW N hN => ?_) ?_; · (go_simp; (try go_bits); exact hN)))
  refine kf_ch ?_
  ((first | refine kl_step rfl rfl rfl fun K hK => ?_ | refine kl_step0 rfl rfl rfl fun K hK => ?_); go_simp; (try go_bits); (first | refine hK _ _ ?_ | refine hK _ ?_); clear hK K)
  refine kl_nil ?_
  have hsum : Bs w4 (some ⟨b, 2, none⟩) 32 e.sum := entBs (by rw [hR4.block b (Array.getElem?_eq_some_iff.1 hB.out).1]; exact hB.out) hs
  have hP := Ps.lit2 (w := w4) 32 rfl hB4 n4 m4 hsum (Nat.le_refl 32) (by omega)
  have hR5 := below_then hR4 ((Below.refl w4.heap.size w4).alloc (Nat.le_refl _) (.cells #[.slice A4 (0 + 8 + 8) c4, .slice (some ⟨b, 2, none⟩) 32 32] 32)) hR4.size
  clear hB4 n4 m4 hsum hR4
  generalize w4.alloc (.cells #[.slice A4 (0 + 8 + 8) c4, .slice (some ⟨b, 2, none⟩) 32 32] 32) = w5 at hP hR5 ⊢
  generalize w4.heap.size = g5 at hP ⊢
  refine kq_f hR5 ?_
  have hfl : [([] ++ le8 e.seq) ++ le8 e.slot, e.sum].flatten = bytesE e := by simp [bytesE]
  repeat (first | refine kf_nil ?_ | refine kf_ung rfl rfl ?_ | refine kf_skipg rfl rfl rfl rfl ?_ | (first | refine kf_move rfl rfl (.inl rfl) rfl rfl ?_ | refine kf_move rfl rfl (.inr rfl) rfl rfl ?_ | refine kf_const rfl rfl (.inl rfl) rfl ?_ | refine kf_const rfl rfl (.inr rfl) rfl ?_) | (refine kf_val rfl rfl rfl ?_; apply Exists.intro; refine And.intro (fun W hW N hN => ?_) ?_; · (go_simp; (try go_bits); exact hN)))
  refine kf_ch ?_
  refine kl_call rfl rfl rfl Try.func57 rfl (by kernel_rfl) rfl ?_
  refine Calls.mono (concat_any _ _ _ _ _ hP (by omega) (by rw [hfl, bytesE_len e hs]; omega)) ?_
  rintro e w6 ⟨v6, rfl, hown, hb6⟩
  rw [hfl, bytesE_len e hs] at hown
  have hR6 := below_then hR5 hb6 hR5.size
  have hw6 := own_mono hown (show w.heap.size ≤ w5.heap.size from Nat.le_trans hb1.size hR5.size)
  have hbz := below_then hb1 hR6 hb1.size
  clear hown hb6 hP
  refine ⟨_, rfl, ?_⟩
  refine kl_nil ?_
  refine kq_f hR6 ?_
  repeat (first | refine kf_nil ?_ | refine kf_ung rfl rfl ?_ | refine kf_skipg rfl rfl rfl rfl ?_ | (first | refine kf_move rfl rfl (.inl rfl) rfl rfl ?_ | refine kf_move rfl rfl (.inr rfl) rfl rfl ?_ | refine kf_const rfl rfl (.inl rfl) rfl ?_ | refine kf_const rfl rfl (.inr rfl) rfl ?_) | (refine kf_val rfl rfl rfl ?_; apply Exists.intro; refine And.intro (fun W hW N hN => ?_) ?_; · (go_simp; (try go_bits); exact hN)))
  refine kq_then ?_
  repeat (first | refine kw_seq ?_ | refine kw_block ?_ | refine kw_skip ?_ | refine kw_region ?_ | refine kl_nil ?_ | refine kq_then ?_ | refine kq_block ?_ | refine kw_exit ?_ | refine kq_then_exit ?_ | refine kq_block_here rfl ?_ | refine kq_block_far rfl ?_ | refine kq_again_exit ?_ | refine kw_ret ?_ | refine kq_then_ret ?_ | refine kq_block_ret ?_ | refine kq_again_ret ?_ | refine kw_ift rfl ?_ | refine kw_iff rfl ?_ | refine kl_ung rfl rfl ?_ | refine kl_skipg rfl rfl rfl rfl ?_ | refine kl_skipg0 rfl rfl rfl ?_ | (first | refine kl_move rfl rfl (.inl rfl) rfl rfl ?_ | refine kl_move rfl rfl (.inr rfl) rfl rfl ?_ | refine kl_const rfl rfl (.inl rfl) rfl ?_ | refine kl_const rfl rfl (.inr rfl) rfl ?_) | ((first | refine kl_step rfl rfl rfl fun K hK => ?_ | refine kl_step0 rfl rfl rfl fun K hK => ?_); go_simp; (try go_bits); (first | refine hK _ _ ?_ | refine hK _ ?_); clear hK K))
  exact kq_ret1 rfl rfl ⟨_, rfl, hw6, hbz⟩
end Go.Proofs.Ytkncomkncfcecaa
set_option linter.unusedVariables false
set_option linter.unusedSimpArgs false
namespace Go.Proofs.Ytkncomkncfcecaa
open Go.RowKit

/-- the first k bytes blank, the others not yet -/
def blankB (k : Nat) : List UInt8 := List.replicate k 255 ++ List.replicate (6144 - k) 0
end Go.Proofs.Ytkncomkncfcecaa
set_option linter.unusedVariables false
set_option linter.unusedSimpArgs false
namespace Go.Proofs.Ytkncomkncfcecaa
open Go.RowKit

end Go.Proofs.Ytkncomkncfcecaa
