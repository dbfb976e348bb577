/- Bytes of an entry: the code's and the document's. The document's flash memory: New, Stop. -/
import Derived.Test.YtkncomkncfcecaaKnV
import Derived.Test.YtkncomkncfcecaaCodeText
import Derived.Test.YtkncomkncfcecaaLay
import Derived.Test.YtkncomkncfcecaaCrcSum
set_option linter.unusedVariables false
set_option linter.unusedSimpArgs false
namespace Go.Proofs.Ytkncomkncfcecaa
open Go.RowKit
attribute [local go_sem] ev_tmp ev_const ev_func ev_global lk_hit lk_miss uponK_value uponK_skip look_tmp look_const look_global look_func valP_value
theorem own_mono {w : World} {base base' : Nat} {e : TypeId} {size : Nat} {v : Value} {n : Nat} {xs : List Value} (h : w.ownsRow base e size v n xs) (hb : base' ≤ base) : w.ownsRow base' e size v n xs := by
  refine ⟨h.1, ?_⟩
  rcases h.2 with h2 | ⟨g, cap, cur, hv, hg, r⟩
  · exact .inl h2
  · exact .inr ⟨g, cap, cur, hv, Nat.le_trans hb hg, r⟩
theorem codeInt_B (A : Option Addr) (n c : Nat) (l : List UInt8) (x : Int) (w : World) (hA : Bs w A n l) (hn : n ≤ 1099511627776) (hx : I64 x) :
    Calls Try.prog 58 #[.slice A n c, .int .i64 x] w fun e w' => ∃ A' c', e = .returned (.slice A' (n + 8) c') ∧ Bs w' A' (n + 8) (l ++ le8 x) ∧ n + 8 ≤ c' ∧ c' ≤ 9223372036854775807 ∧ Below w.heap.size w w' :=
  Calls.mono (codeInt_any A n c l x w hA hn hx) fun e w' ⟨v, he, hown, hb⟩ => by
    obtain ⟨A', c', rfl, h1, h2, h3, _⟩ := own_slice hown
    exact ⟨A', c', he, h3, h1, by simpa [maxLen] using h2, hb⟩
theorem refInt_O {w0 w : World} (hb : Below w0.heap.size w0 w) (v0 : Value) (n : Nat) (l : List UInt8) (x : Int) (hown : w.ownsRow w0.heap.size 5 1 v0 n (bv l)) (hn : n ≤ 1099511627776) (hx : I64 x) :
    Calls Try.prog 71 #[v0, .int .i64 x] w fun e w' => ∃ v, e = .returned v ∧ w'.ownsRow w0.heap.size 5 1 v (n + 8) (bv (l ++ le8 x)) ∧ Below w0.heap.size w0 w' :=
  Calls.mono (refInt_any v0 n l x w w0.heap.size hown hb.size hn hx) fun e w' ⟨v, he, hO⟩ => ⟨v, he, hO.now, below_append hb hO.grown hown hb.size⟩
theorem entBs {w : World} {b : Nat} {e : EntS} {t : TypeId} (h : w.heap[b]? = some (.cells (entC e).toArray t (0, 0))) (hs : e.sum.length = 32) : Bs w (some ⟨b, 2, none⟩) 32 e.sum := by
  refine ⟨by rw [length_bv]; exact hs, fun _ => ⟨b, 2, rfl, fun i u hu => cell_of_block h ?_⟩⟩
  rw [List.getElem?_toArray, ent_sum]; exact hu
def EBytesP (l : List UInt8) (w : World) (e : Ending) (w' : World) : Prop := ∃ v, e = .returned v ∧ w'.ownsRow w.heap.size 5 1 v 48 (bv l) ∧ Below w.heap.size w w'
set_option maxRecDepth 100000 in
set_option maxHeartbeats 1000000 in
theorem eBytes_any (e : EntS) (w : World) (hs : e.sum.length = 32) (h1 : I64 e.seq) (h2 : I64 e.slot) : Calls Try.prog 35 #[.agg (entC e).toArray] w (EBytesP (bytesE e) w) := by
  refine calls_kw Try.func35 rfl Try.ntmps35 rfl [(0, .agg (entC e).toArray)] rfl ?_
  refine kw_seq ?_
  refine kw_region ?_
  refine kl_boxL (Lay.start w) rfl rfl rfl rfl rfl ?_
  intro b w1 hb hb1 hL
  clear hb
  repeat (first | refine kw_seq ?_ | refine kl_nil ?_ | refine kq_then ?_ | (first | refine kl_move rfl rfl (.inl rfl) rfl rfl ?_ | refine kl_move rfl rfl (.inr rfl) rfl rfl ?_ | refine kl_const rfl rfl (.inl rfl) rfl ?_ | refine kl_const rfl rfl (.inr rfl) rfl ?_) | ((first | refine kl_step rfl rfl rfl fun K hK => ?_ | refine kl_step0 rfl rfl rfl fun K hK => ?_); go_simp; (try go_bits); (first | refine hK _ _ ?_ | refine hK _ ?_); clear hK K))
  have hB := Lib.hid (hL.at_ 0 rfl)
  have hR0 : Below w1.heap.size w1 w1.drew := (Below.refl _ _).drew
  have f0 := fun W (h : Below w1.heap.size w1 W) => Keeps.of_below h _ _ (hL.get 0 rfl (ent_0 e))
  have f1 := fun W (h : Below w1.heap.size w1 W) => Keeps.of_below h _ _ (hL.get 0 rfl (ent_1 e))
  refine kw_region_f (Below w1.heap.size w1) [true, true, false, true, true, false, true, true, false, false, true] (by kernel_rfl) (by kernel_rfl) hR0 ?_
  generalize w1.drew = w2 at hR0 ⊢
  repeat (first | refine kf_nil ?_ | refine kf_ung rfl rfl ?_ | refine kf_skipg rfl rfl rfl rfl ?_ | (first | refine kf_move rfl rfl (.inl rfl) rfl rfl ?_ | refine kf_move rfl rfl (.inr rfl) rfl rfl ?_ | refine kf_const rfl rfl (.inl rfl) rfl ?_ | refine kf_const rfl rfl (.inr rfl) rfl ?_) | (refine kf_val rfl rfl rfl ?_; apply Exists.intro; refine And.intro (fun W hW N hN => ?_) ?_; · (go_simp; (try go_bits); exact hN)))
  refine kf_ch ?_
  refine kl_call rfl rfl rfl Try.func58 rfl (by kernel_rfl) rfl ?_
  refine Calls.mono (codeInt_B none 0 0 [] e.seq _ (Vs.nil _ _) (by omega) h1) ?_
  rintro e w3 ⟨A3, c3, rfl, hB3, n3, m3, hb3⟩
  have hR3 := below_then hR0 hb3 hR0.size
  clear hR0 hb3
  refine ⟨_, rfl, ?_⟩
  refine kl_nil ?_
  refine kq_f hR3 ?_
  repeat (first | refine kf_nil ?_ | refine kf_ung rfl rfl ?_ | refine kf_skipg rfl rfl rfl rfl ?_ | (first | refine kf_move rfl rfl (.inl rfl) rfl rfl ?_ | refine kf_move rfl rfl (.inr rfl) rfl rfl ?_ | refine kf_const rfl rfl (.inl rfl) rfl ?_ | refine kf_const rfl rfl (.inr rfl) rfl ?_) | (refine kf_val rfl rfl rfl ?_; apply Exists.intro; refine And.intro (fun W hW N hN => ?_) ?_; · (go_simp; (try go_bits); exact hN)))
  refine kf_ch ?_
  refine kl_call rfl rfl rfl Try.func58 rfl (by kernel_rfl) rfl ?_
  refine Calls.mono (codeInt_B A3 (0 + 8) c3 _ e.slot _ hB3 (by omega) h2) ?_
  rintro e w4 ⟨A4, c4, rfl, hB4, n4, m4, hb4⟩
  have hR4 := below_then hR3 hb4 hR3.size
  clear hR3 hb4 hB3
  refine ⟨_, rfl, ?_⟩
  refine kl_nil ?_
  refine kq_f hR4 ?_
  repeat (first | refine kf_nil ?_ | refine kf_ung rfl rfl ?_ | refine kf_skipg rfl rfl rfl rfl ?_ | (first | refine kf_move rfl rfl (.inl rfl) rfl rfl ?_ | refine kf_move rfl rfl (.inr rfl) rfl rfl ?_ | refine kf_const rfl rfl (.inl rfl) rfl ?_ | refine kf_const rfl rfl (.inr rfl) rfl ?_) | (refine kf_val rfl rfl rfl ?_; apply Exists.intro; refine And.intro (fun W hW N hN => ?_) ?_; · (go_simp; (try go_bits); exact hN)))
  refine kf_ch ?_
  ((first | refine kl_step rfl rfl rfl fun K hK => ?_ | refine kl_step0 rfl rfl rfl fun K hK => ?_); go_simp; (try go_bits); (first | refine hK _ _ ?_ | refine hK _ ?_); clear hK K)
  refine kl_nil ?_
  have hsum : Bs w4 (some ⟨b, 2, none⟩) 32 e.sum := entBs (by rw [hR4.block b (Array.getElem?_eq_some_iff.1 hB.out).1]; exact hB.out) hs
  have hP := Ps.lit2 (w := w4) 32 rfl hB4 n4 m4 hsum (Nat.le_refl 32) (by omega)
  have hR5 := below_then hR4 ((Below.refl w4.heap.size w4).alloc (Nat.le_refl _) (.cells #[.slice A4 (0 + 8 + 8) c4, .slice (some ⟨b, 2, none⟩) 32 32] 32)) hR4.size
  clear hB4 n4 m4 hsum hR4
  generalize w4.alloc (.cells #[.slice A4 (0 + 8 + 8) c4, .slice (some ⟨b, 2, none⟩) 32 32] 32) = w5 at hP hR5 ⊢
  generalize w4.heap.size = g5 at hP ⊢
  refine kq_f hR5 ?_
  have hfl : [([] ++ le8 e.seq) ++ le8 e.slot, e.sum].flatten = bytesE e := by simp [bytesE]
  repeat (first | refine kf_nil ?_ | refine kf_ung rfl rfl ?_ | refine kf_skipg rfl rfl rfl rfl ?_ | (first | refine kf_move rfl rfl (.inl rfl) rfl rfl ?_ | refine kf_move rfl rfl (.inr rfl) rfl rfl ?_ | refine kf_const rfl rfl (.inl rfl) rfl ?_ | refine kf_const rfl rfl (.inr rfl) rfl ?_) | (refine kf_val rfl rfl rfl ?_; apply Exists.intro; refine And.intro (fun W hW N hN => ?_) ?_; · (go_simp; (try go_bits); exact hN)))
  refine kf_ch ?_
  refine kl_call rfl rfl rfl Try.func57 rfl (by kernel_rfl) rfl ?_
  refine Calls.mono (concat_any _ _ _ _ _ hP (by omega) (by rw [hfl, bytesE_len e hs]; omega)) ?_
  rintro e w6 ⟨v6, rfl, hown, hb6⟩
  rw [hfl, bytesE_len e hs] at hown
  have hR6 := below_then hR5 hb6 hR5.size
  have hw6 := own_mono hown (show w.heap.size ≤ w5.heap.size from Nat.le_trans hb1.size hR5.size)
  have hbz := below_then hb1 hR6 hb1.size
  clear hown hb6 hP
  refine ⟨_, rfl, ?_⟩
  refine kl_nil ?_
  refine kq_f hR6 ?_
  repeat (first | refine kf_nil ?_ | refine kf_ung rfl rfl ?_ | refine kf_skipg rfl rfl rfl rfl ?_ | (first | refine kf_move rfl rfl (.inl rfl) rfl rfl ?_ | refine kf_move rfl rfl (.inr rfl) rfl rfl ?_ | refine kf_const rfl rfl (.inl rfl) rfl ?_ | refine kf_const rfl rfl (.inr rfl) rfl ?_) | (refine kf_val rfl rfl rfl ?_; apply Exists.intro; refine And.intro (fun W hW N hN => ?_) ?_; · (go_simp; (try go_bits); exact hN)))
  refine kq_then ?_
  repeat (first | refine kw_seq ?_ | refine kw_block ?_ | refine kw_skip ?_ | refine kw_region ?_ | refine kl_nil ?_ | refine kq_then ?_ | refine kq_block ?_ | refine kw_exit ?_ | refine kq_then_exit ?_ | refine kq_block_here rfl ?_ | refine kq_block_far rfl ?_ | refine kq_again_exit ?_ | refine kw_ret ?_ | refine kq_then_ret ?_ | refine kq_block_ret ?_ | refine kq_again_ret ?_ | refine kw_ift rfl ?_ | refine kw_iff rfl ?_ | refine kl_ung rfl rfl ?_ | refine kl_skipg rfl rfl rfl rfl ?_ | refine kl_skipg0 rfl rfl rfl ?_ | (first | refine kl_move rfl rfl (.inl rfl) rfl rfl ?_ | refine kl_move rfl rfl (.inr rfl) rfl rfl ?_ | refine kl_const rfl rfl (.inl rfl) rfl ?_ | refine kl_const rfl rfl (.inr rfl) rfl ?_) | ((first | refine kl_step rfl rfl rfl fun K hK => ?_ | refine kl_step0 rfl rfl rfl fun K hK => ?_); go_simp; (try go_bits); (first | refine hK _ _ ?_ | refine hK _ ?_); clear hK K))
  exact kq_ret1 rfl rfl ⟨_, rfl, hw6, hbz⟩
set_option maxRecDepth 100000 in
set_option maxHeartbeats 1000000 in
theorem eBytesR_any (e : EntS) (w : World) (hs : e.sum.length = 32) (h1 : I64 e.seq) (h2 : I64 e.slot) : Calls Try.prog 46 #[.agg (entC e).toArray] w (EBytesP (bytesE e) w) := by
  refine calls_kw Try.func46 rfl Try.ntmps46 rfl [(0, .agg (entC e).toArray)] rfl ?_
  refine kw_seq ?_
  refine kw_region ?_
  refine kl_boxL (Lay.start w) rfl rfl rfl rfl rfl ?_
  intro b w1 hb hb1 hL
  clear hb
  repeat (first | refine kw_seq ?_ | refine kl_nil ?_ | refine kq_then ?_ | (first | refine kl_move rfl rfl (.inl rfl) rfl rfl ?_ | refine kl_move rfl rfl (.inr rfl) rfl rfl ?_ | refine kl_const rfl rfl (.inl rfl) rfl ?_ | refine kl_const rfl rfl (.inr rfl) rfl ?_) | ((first | refine kl_step rfl rfl rfl fun K hK => ?_ | refine kl_step0 rfl rfl rfl fun K hK => ?_); go_simp; (try go_bits); (first | refine hK _ _ ?_ | refine hK _ ?_); clear hK K))
  have hB := Lib.hid (hL.at_ 0 rfl)
  have hR0 : Below w1.heap.size w1 w1.drew := (Below.refl _ _).drew
  have f0 := fun W (h : Below w1.heap.size w1 W) => Keeps.of_below h _ _ (hL.get 0 rfl (ent_0 e))
  have f1 := fun W (h : Below w1.heap.size w1 W) => Keeps.of_below h _ _ (hL.get 0 rfl (ent_1 e))
  refine kw_region_f (Below w1.heap.size w1) [true, true, false, true, true, false, true] (by kernel_rfl) (by kernel_rfl) hR0 ?_
  generalize w1.drew = w2 at hR0 ⊢
  repeat (first | refine kf_nil ?_ | refine kf_ung rfl rfl ?_ | refine kf_skipg rfl rfl rfl rfl ?_ | (first | refine kf_move rfl rfl (.inl rfl) rfl rfl ?_ | refine kf_move rfl rfl (.inr rfl) rfl rfl ?_ | refine kf_const rfl rfl (.inl rfl) rfl ?_ | refine kf_const rfl rfl (.inr rfl) rfl ?_) | (refine kf_val rfl rfl rfl ?_; apply Exists.intro; refine And.intro (fun W hW N hN => ?_) ?_; · (go_simp; (try go_bits); exact hN)))
  refine kf_ch ?_
  refine kl_call rfl rfl rfl Try.func71 rfl (by kernel_rfl) rfl ?_
  refine Calls.mono (refInt_O hR0 (.slice none 0 0) 0 [] e.seq (World.ownsRow_nil _ _ _ _) (by omega) h1) ?_
  rintro e w3 ⟨v3, rfl, ho3, hR3⟩
  refine ⟨_, rfl, ?_⟩
  refine kl_nil ?_
  refine kq_f hR3 ?_
  repeat (first | refine kf_nil ?_ | refine kf_ung rfl rfl ?_ | refine kf_skipg rfl rfl rfl rfl ?_ | (first | refine kf_move rfl rfl (.inl rfl) rfl rfl ?_ | refine kf_move rfl rfl (.inr rfl) rfl rfl ?_ | refine kf_const rfl rfl (.inl rfl) rfl ?_ | refine kf_const rfl rfl (.inr rfl) rfl ?_) | (refine kf_val rfl rfl rfl ?_; apply Exists.intro; refine And.intro (fun W hW N hN => ?_) ?_; · (go_simp; (try go_bits); exact hN)))
  refine kf_ch ?_
  refine kl_call rfl rfl rfl Try.func71 rfl (by kernel_rfl) rfl ?_
  refine Calls.mono (refInt_O hR3 v3 (0 + 8) _ e.slot ho3 (by omega) h2) ?_
  rintro e w4 ⟨v4, rfl, ho4, hR4⟩
  refine ⟨_, rfl, ?_⟩
  refine kl_nil ?_
  refine kq_f hR4 ?_
  repeat (first | refine kf_nil ?_ | refine kf_ung rfl rfl ?_ | refine kf_skipg rfl rfl rfl rfl ?_ | (first | refine kf_move rfl rfl (.inl rfl) rfl rfl ?_ | refine kf_move rfl rfl (.inr rfl) rfl rfl ?_ | refine kf_const rfl rfl (.inl rfl) rfl ?_ | refine kf_const rfl rfl (.inr rfl) rfl ?_) | (refine kf_val rfl rfl rfl ?_; apply Exists.intro; refine And.intro (fun W hW N hN => ?_) ?_; · (go_simp; (try go_bits); exact hN)))
  refine kq_then ?_
  have hsum : Bs w4 (some ⟨b, 2, none⟩) 32 e.sum := entBs (by rw [hR4.block b (Array.getElem?_eq_some_iff.1 hB.out).1]; exact hB.out) hs
  clear ho3 hR0 hR3 f0 f1
  repeat (first | refine kw_seq ?_ | refine kw_region ?_ | (first | refine kl_move rfl rfl (.inl rfl) rfl rfl ?_ | refine kl_move rfl rfl (.inr rfl) rfl rfl ?_ | refine kl_const rfl rfl (.inl rfl) rfl ?_ | refine kl_const rfl rfl (.inr rfl) rfl ?_) | ((first | refine kl_step rfl rfl rfl fun K hK => ?_ | refine kl_step0 rfl rfl rfl fun K hK => ?_); go_simp; (try go_bits); (first | refine hK _ _ ?_ | refine hK _ ?_); clear hK K))
  refine kl_append w1.heap.size v4 (0 + 8 + 8) _ ho4 _ 32 32 e.sum hsum (by omega) hR4.size rfl rfl rfl rfl rfl rfl ?_
  intro v5 w5 ho5 hg5 _
  have hbz := below_then hb1 (below_append hR4 hg5 ho4 hR4.size) hb1.size
  have he : ([] ++ le8 e.seq) ++ le8 e.slot ++ e.sum = bytesE e := by simp [bytesE]
  rw [he] at ho5
  have hw5 := own_mono ho5 hb1.size
  repeat (first | refine kw_seq ?_ | refine kw_block ?_ | refine kw_skip ?_ | refine kw_region ?_ | refine kl_nil ?_ | refine kq_then ?_ | refine kq_block ?_ | refine kw_exit ?_ | refine kq_then_exit ?_ | refine kq_block_here rfl ?_ | refine kq_block_far rfl ?_ | refine kq_again_exit ?_ | refine kw_ret ?_ | refine kq_then_ret ?_ | refine kq_block_ret ?_ | refine kq_again_ret ?_ | refine kw_ift rfl ?_ | refine kw_iff rfl ?_ | refine kl_ung rfl rfl ?_ | refine kl_skipg rfl rfl rfl rfl ?_ | refine kl_skipg0 rfl rfl rfl ?_ | (first | refine kl_move rfl rfl (.inl rfl) rfl rfl ?_ | refine kl_move rfl rfl (.inr rfl) rfl rfl ?_ | refine kl_const rfl rfl (.inl rfl) rfl ?_ | refine kl_const rfl rfl (.inr rfl) rfl ?_) | ((first | refine kl_step rfl rfl rfl fun K hK => ?_ | refine kl_step0 rfl rfl rfl fun K hK => ?_); go_simp; (try go_bits); (first | refine hK _ _ ?_ | refine hK _ ?_); clear hK K))
  exact kq_ret1 rfl rfl ⟨_, rfl, hw5, hbz⟩
end Go.Proofs.Ytkncomkncfcecaa
set_option linter.unusedVariables false
set_option linter.unusedSimpArgs false
namespace Go.Proofs.Ytkncomkncfcecaa
open Go.RowKit

/-- the first k bytes blank, the others not yet -/
def blankB (k : Nat) : List UInt8 := List.replicate k 255 ++ List.replicate (6144 - k) 0
theorem length_blankB (k : Nat) (hk : k ≤ 6144) : (blankB k).length = 6144 := by unfold blankB; rw [List.length_append, List.length_replicate, List.length_replicate]; omega
theorem blankB_next (k : Nat) (hk : k < 6144) : (blankB k).set k 255 = blankB (k + 1) := by
  unfold blankB
  rw [List.set_append_right _ _ (by rw [List.length_replicate]; exact Nat.le_refl _), List.length_replicate, Nat.sub_self, show 6144 - k = (6144 - (k + 1)) + 1 by omega, List.replicate_succ (a := (0 : UInt8)), List.set_cons_zero, List.replicate_succ', List.append_assoc]
  rfl
set_option maxRecDepth 100000 in
set_option maxHeartbeats 1000000 in
theorem refNew_any (w : World) : Calls Try.prog 20 #[] w fun r w' => r = .returned (.pointer (some ⟨w.heap.size, 0, none⟩)) ∧ RF (fun _ => False) w' w.heap.size newF ∧ Below w.heap.size w w' := by
  have hbuild := run_zeroRef
  have h0 : List.replicate 6144 (0 : UInt8) = blankB 0 := by unfold blankB; rw [List.replicate_zero, List.nil_append]
  rw [h0] at hbuild
  have hfin : newF = ⟨0, 0, [], false, blankB 6144⟩ := by
    unfold newF blankB
    rw [Nat.sub_self, List.replicate_zero, List.append_nil]
  rw [hfin]
  clear hfin h0
  go_enter Try.func20, Try.ntmps20
  go_wp2_with fail
  go_loopw [2] (fun sv wr => ∃ (s : Nat), s ≤ 6 ∧ sv = .int .i64 s ∧ wr.heap[w.heap.size]? = some (.cells (rfCells ⟨0, 0, [], false, blankB (s * 1024)⟩ none 0 0).toArray 89 (0, 0)) ∧ Below w.heap.size w wr) (fun sv _ => 6 - (intOf sv).toNat)
  case atStart => exact ⟨0, by omega, rfl, heap_alloc_new w _, (Below.refl _ w).alloc (Nat.le_refl _) _⟩
  case round =>
    clear hbuild
    obtain ⟨s, hs, rfl, hg, hbr⟩ := hrel
    by_cases hlt : s < 6
    · have hs1 : (s : Int) < 6 := by omega
      have hs0 : (0 : Int) ≤ s := by omega
      go_wp2_with fail
      go_loopw [3] (fun iv wr => ∃ (i : Nat), i ≤ 1024 ∧ iv = .int .i64 i ∧ wr.heap[w.heap.size]? = some (.cells (rfCells ⟨0, 0, [], false, blankB (s * 1024 + i)⟩ none 0 0).toArray 89 (0, 0)) ∧ Below w.heap.size w wr) (fun iv _ => 1024 - (intOf iv).toNat)
      case atStart => exact ⟨0, by omega, rfl, hg, hbr⟩
      case round =>
        clear hg hbr
        obtain ⟨i, hi, rfl, hg, hbr⟩ := hrel
        by_cases hlt2 : i < 1024
        · have hi1 : (i : Int) < 1024 := by omega
          have hi0 : (0 : Int) ≤ i := by omega
          have hL := length_blankB (s * 1024 + i) (by omega)
          have c0 := rf_byte hg (i := s * 1024 + i) (by show _ < (blankB (s * 1024 + i)).length; rw [hL]; omega)
          have f0 : wr.frozen? ⟨w.heap.size, s * 1024 + i, none⟩ = false := free_of_block hg
          have hg2 := block_setCell (i := s * 1024 + i) (.int .u8 ((255 : UInt8).toNat : Int)) hg
          rw [rf_setByte _ (by show _ < (blankB (s * 1024 + i)).length; rw [hL]; omega)] at hg2
          dsimp only at hg2
          rw [blankB_next _ (by omega)] at hg2
          have HG2 := Lib.hid hg2
          clear hg hg2 hL
          go_wp2_with fail
          go_roundw
          case rel => exact ⟨i + 1, by omega, by go_num, HG2.out, hbr.setCell (p := ⟨w.heap.size, s * 1024 + i, none⟩) (Nat.le_refl _) _⟩
          case measure => simp [intOf]; omega
        · obtain rfl : i = 1024 := by omega
          rw [show s * 1024 + 1024 = (s + 1) * 1024 by omega] at hg
          have HG := Lib.hid hg
          clear hg
          go_wp2_with fail
          go_roundw
          case rel => exact ⟨s + 1, by omega, by go_num, HG.out, hbr⟩
          case measure => simp [intOf]; omega
    · obtain rfl : s = 6 := by omega
      rw [show 6 * 1024 = 6144 by omega] at hg
      have HG := Lib.hid hg
      clear hg
      go_wp2_with fail
      go_ret
      exact ⟨rfl, ⟨none, 0, 0, HG.out, length_blankB 6144 (Nat.le_refl _), Int.le_refl _, by show (0 : Int) ≤ _; omega, Bs.nil _ _, Nat.le_refl _, by omega, inQ_none _⟩, hbr⟩

set_option maxRecDepth 100000 in
theorem refStop_any (Q : Nat → Prop) (g : Nat) (hQ : ∀ b, Q b → b ≠ g) (f : FlashSt) (x : Int) (B : Option Addr) (m d : Nat) (l : List UInt8) (w : World) (h : RF Q w g f) (hQ2 : ∀ b, w.heap.size ≤ b → Q b) (hx : -9223372036854775808 ≤ x ∧ x ≤ 9223372036854775807) (hB : Bs w B m l) (hm : m ≤ 1099511627776) :
    Calls Try.prog 24 #[.pointer (some ⟨g, 0, none⟩), .int .i64 x, .slice B m d] w fun r w' => r = .returned (.tuple #[]) ∧ RF Q w' g (stopF f x l) ∧ w.grownBy w' (some g) := by
  obtain ⟨A, n, c, hg0, hS, hl0, hl1, hB0, hn, hc, ha⟩ := h
  have HG0 := Lib.hid hg0
  have hglt := (Array.getElem?_eq_some_iff.1 hg0).1
  clear hg0
  go_enter Try.func24, Try.ntmps24
  have key : ∀ (w1 : World) (M : Option Addr) (cm : Nat), Below w.heap.size w w1 →
      Hid (((w1.setCell ⟨g, 6145, none⟩ (.int .i64 (max x 0))).setCell ⟨g, 6146, none⟩ (.slice M m cm)).heap[g]? = some (.cells (rfCells (stopF f x l) M m cm).toArray 89 (0, 0))) ∧ w1.cell? ⟨g, 6145, none⟩ = some (.int .i64 f.left) ∧ w1.cell? ⟨g, 6146, none⟩ = some (.slice A n c) ∧
      w1.frozen? ⟨g, 6145, none⟩ = false ∧ w1.frozen? ⟨g, 6146, none⟩ = false := by
    intro w1 M cm hb
    have hg : w1.heap[g]? = some (.cells (rfCells f A n c).toArray 89 (0, 0)) := by rw [hb.block g hglt]; exact HG0.out
    have h1 := block_setCell (i := 6145) (.int .i64 (max x 0)) hg
    rw [rf_setLeft hS] at h1
    have h2 := block_setCell (i := 6146) (.slice M m cm) h1
    rw [rf_setMask (f := { f with left := max x 0 }) hS M m cm l] at h2
    exact ⟨h2, rf_left hg hS, rf_mask hg hS, free_of_block hg, free_of_block hg⟩
  have hfin : ∀ (w1 : World) (M : Option Addr) (cm : Nat) (V : World), Below w.heap.size w w1 → w1.ownsRow w.heap.size 5 1 (.slice M m cm) m (bv l) → V = (w1.setCell ⟨g, 6145, none⟩ (.int .i64 (max x 0))).setCell ⟨g, 6146, none⟩ (.slice M m cm) → RF Q V g (stopF f x l) ∧ w.grownBy V (some g) := by
    intro w1 M cm V hb hown hV
    subst hV
    obtain ⟨A2, c2, e, q1, q2, q3, _⟩ := own_slice hown
    injection e with e1 _ e3
    subst e1; subst e3
    have hin : InQ (fun b => w.heap.size ≤ b) M := by
      intro a e
      rcases hown.2 with ⟨hv, _⟩ | ⟨g', cap, cur, hv, hb', _⟩
      · injection hv with hv _ _; rw [hv] at e; cases e
      · injection hv with hv _ _; rw [hv] at e; injection e with e; subst e; exact hb'
    have hgr := grown_trans (grown_set w1 g 6145 (.int .i64 (max x 0))) (grown_set _ g 6146 (.slice M m cm))
    refine ⟨⟨M, m, cm, (key w1 M cm hb).1.out, hS, by show 0 ≤ max x 0; omega, by show max x 0 ≤ _; omega, ?_, q1, by simpa [maxLen] using q2, fun a e => hQ2 _ (hin a e)⟩, grown_trans (grown_below hb _) hgr⟩
    exact Bs.grownKeep q3 hgr (fun a e => Nat.ne_of_gt (Nat.lt_of_lt_of_le hglt (hin a e)))
  by_cases h0 : 0 ≤ x
  · have hmx : max x 0 = x := by omega
    rw [hmx] at key hfin
    clear hmx
    go_wp2_with (at_builtin; refine cloneB w rfl (.tmp 10) (.tmp 11) rfl _ rfl rfl _ _ _ l rfl hB (by omega) ?_; intro v2 w2 hown2 hb2; obtain ⟨A2, c2, rfl, q1, q2, q3, _⟩ := own_slice hown2; obtain ⟨k1, k2, k3, k4, k5⟩ := key w2 A2 c2 hb2)
    go_end0
    exact ⟨rfl, hfin w2 A2 c2 _ hb2 hown2 rfl⟩
  · have hmx : max x 0 = 0 := by omega
    rw [hmx] at key hfin
    go_wp2_with (at_builtin; refine cloneB w rfl (.tmp 10) (.tmp 11) rfl _ rfl rfl _ _ _ l rfl hB (by omega) ?_; intro v2 w2 hown2 hb2; obtain ⟨A2, c2, rfl, q1, q2, q3, _⟩ := own_slice hown2; obtain ⟨k1, k2, k3, k4, k5⟩ := key w2 A2 c2 hb2)
    go_end0
    exact ⟨rfl, hfin w2 A2 c2 _ hb2 hown2 rfl⟩
end Go.Proofs.Ytkncomkncfcecaa
