/- The words of a piece. -/
import Derived.Test.YtkncomkncfcecaaShaWord
import Derived.Test.YtkncomkncfcecaaRegion
import Derived.StillTailTactics
import Derived.Deep.QuietTactic
import Derived.BigQuiet
import Derived.Deep.DeepCutAuto
import Derived.Deep.CutBlock
set_option linter.unusedVariables false
set_option linter.unusedSimpArgs false
namespace Go.Proofs.Ytkncomkncfcecaa
open Go.RowKit

theorem wl_cell {w : World} {g : Nat} {l : List UInt8} {k : Nat} {rest : List W32} {t : TypeId} {fr : Nat × Nat} (h : w.heap[g]? = some (.cells (wv (wl l k ++ rest)).toArray t fr)) {i : Nat} (hi : i < k) : w.cell? ⟨g, i, none⟩ = some (.int .u32 (((wl l k).getD i 0).toNat : Int)) := by
  rw [wv_cell h (i := i) (by simp [length_wl]; omega), List.getD_eq_getElem?_getD, List.getElem?_append_left (by rw [length_wl]; exact hi), List.getD_eq_getElem?_getD]
theorem byte_at {w : World} {b o n : Nat} {l : List UInt8} (h : Bs w (some ⟨b, o, none⟩) n l) {k : Nat} (hk : k < n) : ∃ x, Hid (l.getD k 0 = x) ∧ w.cell? ⟨b, o + k, none⟩ = some (.int .u8 ((x : UInt8).toNat : Int)) := by
  have hl : k < l.length := by rw [h.len]; exact hk
  refine ⟨l.getD k 0, rfl, ?_⟩
  rw [List.getD_eq_getElem?_getD, List.getElem?_eq_getElem hl]
  exact h.cellAt hl
set_option maxRecDepth 100000 in
set_option maxHeartbeats 2000000 in
theorem spread_any (A : Option Addr) (n c : Nat) (l : List UInt8) (w : World) (hA : Bs w A n l) (hn : 64 ≤ n) (hn2 : n ≤ 140737488355328) :
    Calls Try.prog 99 #[.slice A n c] w fun e w' => e = .returned (.agg (wv (wl l 64)).toArray) ∧ Below w.heap.size w w' := by
  obtain ⟨b, o, rfl⟩ := hA.some_ (by omega)
  go_enter Try.func99, Try.ntmps99
  go_wp2_with (with_reducible refine wpList_alloc_row rfl 81 rfl z64Zero ?_)
  obtain ⟨w2, hw2⟩ : ∃ w2, w2 = (w.alloc (.cells (wv z64).toArray 81)).alloc (.cells (wv z64).toArray 81) := ⟨_, rfl⟩
  have hb2 : Below w.heap.size w w2 := by rw [hw2]; exact ((Below.refl _ _).alloc (Nat.le_refl _) _).alloc (by simp) _
  have hg0 : w2.heap[w.heap.size]? = some (.cells (wv z64).toArray 81 (0, 0)) := by rw [hw2]; exact (two_new _ _ _).1
  have hg1 : w2.heap[w.heap.size + 1]? = some (.cells (wv z64).toArray 81 (0, 0)) := by rw [hw2]; exact (two_new _ _ _).2
  rw [← hw2]
  clear hw2
  have hsz := hb2.size
  obtain ⟨g0, hg0e⟩ : ∃ g0, w.heap.size = g0 := ⟨_, rfl⟩
  obtain ⟨g1, hg1e⟩ : ∃ g1, w.heap.size + 1 = g1 := ⟨_, rfl⟩
  rw [hg1e] at hg1 ⊢
  rw [hg0e] at hg0 ⊢
  have hne : g0 ≠ g1 := by omega
  have hB : w.heap.size ≤ g0 := by omega
  have hB1 : w.heap.size ≤ g1 := by omega
  clear hg0e hg1e hsz
  go_loopw [8] (fun i wr => ∃ (k : Nat), k ≤ 16 ∧ i = .int .i64 k ∧ Below w.heap.size w wr ∧ wr.heap[g0]? = some (.cells (wv z64).toArray 81 (0, 0)) ∧ wr.heap[g1]? = some (.cells (wv (wl l k ++ List.replicate (64 - k) 0)).toArray 81 (0, 0))) (fun i _ => 16 - (intOf i).toNat)
  case atStart => exact ⟨0, by omega, rfl, hb2, hg0, hg1⟩
  case round =>
    clear hb2 hg0 hg1
    obtain ⟨k, hk, rfl, hb, h0, h1⟩ := hrel
    by_cases hlt : k < 16
    · have hk1 : (k : Int) < 16 := by omega
      have hk64 : (k : Int) < 64 := by omega
      have hk0 : (0 : Int) ≤ k := by omega
      have e0 : IntKind.i64.wrap (4 * (k : Int)) = 4 * k := IntWalk.i64_in _ (by omega)
      have e1 : IntKind.i64.wrap (4 * (k : Int) + 1) = 4 * k + 1 := IntWalk.i64_in _ (by omega)
      have e2 : IntKind.i64.wrap (4 * (k : Int) + 2) = 4 * k + 2 := IntWalk.i64_in _ (by omega)
      have e3 : IntKind.i64.wrap (4 * (k : Int) + 3) = 4 * k + 3 := IntWalk.i64_in _ (by omega)
      have t0 : (4 * (k : Int)).toNat = 4 * k := by omega
      have t1 : (4 * (k : Int) + 1).toNat = 4 * k + 1 := by omega
      have t2 : (4 * (k : Int) + 2).toNat = 4 * k + 2 := by omega
      have t3 : (4 * (k : Int) + 3).toNat = 4 * k + 3 := by omega
      have i0 : 4 * (k : Int) < n := by omega
      have i1 : 4 * (k : Int) + 1 < n := by omega
      have i2 : 4 * (k : Int) + 2 < n := by omega
      have i3 : 4 * (k : Int) + 3 < n := by omega
      have j0 : 0 ≤ 4 * (k : Int) := by omega
      have j1 : 0 ≤ 4 * (k : Int) + 1 := by omega
      have j2 : 0 ≤ 4 * (k : Int) + 2 := by omega
      have j3 : 0 ≤ 4 * (k : Int) + 3 := by omega
      have hl := hA.len
      obtain ⟨x0, hx0, c0⟩ := byte_at hA (show 4 * k < n by omega)
      obtain ⟨x1, hx1, c1⟩ := byte_at hA (show 4 * k + 1 < n by omega)
      obtain ⟨x2, hx2, c2⟩ := byte_at hA (show 4 * k + 2 < n by omega)
      obtain ⟨x3, hx3, c3⟩ := byte_at hA (show 4 * k + 3 < n by omega)
      replace c0 := Keeps.of_below hb _ _ c0
      replace c1 := Keeps.of_below hb _ _ c1
      replace c2 := Keeps.of_below hb _ _ c2
      replace c3 := Keeps.of_below hb _ _ c3
      have HL := Lib.hid hl
      clear hl
      go_upto_region 5 with fail
      go_still_tail 35, (by kernel_rfl)
      change wpList _ _ _ _ _ wr.drew
      have hb := hb.drew
      have h0 : wr.drew.heap[g0]? = some (.cells (wv z64).toArray 81 (0, 0)) := h0
      have h1 : wr.drew.heap[g1]? = some (.cells (wv (wl l k ++ List.replicate (64 - k) 0)).toArray 81 (0, 0)) := h1
      generalize wr.drew = w3 at *
      have d1 : w3.cell? ⟨g1, k, none⟩ = some (.int .u32 (((wl l k ++ List.replicate (64 - k) 0).getD k 0).toNat : Int)) := wv_cell h1 (by simp [length_wl]; omega)
      have f1 : w3.frozen? ⟨g1, k, none⟩ = false := free_of_block h1
      have H0 := Lib.hid h0
      have H1 := Lib.hid h1
      have E1 : Hid _ := Lib.hid (be4_code x0 x1 x2 x3)
      have E2 : be4 x0 x1 x2 x3 = be32 l (4 * k) := by unfold be32; rw [hx0.out, hx1.out, hx2.out, hx3.out]
      have E2 := Lib.hid E2
      clear c0 c1 c2 c3 h0 h1 e0 e1 e2 e3 t0 t1 t2 t3 i0 i1 i2 i3 j0 j1 j2 j3 hx0 hx1 hx2 hx3
      go_wp2_with fail
      go_roundw
      case rel =>
        rw [E1.out, E2.out]
        refine ⟨k + 1, by omega, by go_num, hb.setCell hB1 _, ?_, ?_⟩
        · rw [Below.heap_setCell _ _ _ _ hne]; exact H0.out
        · rw [wv_setCell H1.out, wl_set l k (by omega) _ (by simp) _ (wl_low l k hlt), List.tail_replicate, Nat.sub_sub]
      case measure => simp [intOf]; omega
    · rw [show (k : Int) = 16 by omega]
      obtain rfl : k = 16 := by omega
      go_wp2_with fail
      go_loopw [5] (fun i wr => ∃ (k : Nat), 16 ≤ k ∧ k ≤ 64 ∧ i = .int .i64 k ∧ Below w.heap.size w wr ∧ wr.heap[g0]? = some (.cells (wv z64).toArray 81 (0, 0)) ∧ wr.heap[g1]? = some (.cells (wv (wl l k ++ List.replicate (64 - k) 0)).toArray 81 (0, 0))) (fun i _ => 64 - (intOf i).toNat)
      case atStart => exact ⟨16, by omega, by omega, rfl, hb, h0, h1⟩
      case round =>
        clear hb h0 h1
        obtain ⟨k, hk16, hk64, rfl, hb, h0, h1⟩ := hrel
        by_cases hlt : k < 64
        · have hk1 : (k : Int) < 64 := by omega
          have hk0 : (0 : Int) ≤ k := by omega
          have e15 : IntKind.i64.wrap ((k : Int) - 15) = k - 15 := IntWalk.i64_in _ (by omega)
          have e2 : IntKind.i64.wrap ((k : Int) - 2) = k - 2 := IntWalk.i64_in _ (by omega)
          have e16 : IntKind.i64.wrap ((k : Int) - 16) = k - 16 := IntWalk.i64_in _ (by omega)
          have e7 : IntKind.i64.wrap ((k : Int) - 7) = k - 7 := IntWalk.i64_in _ (by omega)
          have t15 : ((k : Int) - 15).toNat = k - 15 := by omega
          have t2 : ((k : Int) - 2).toNat = k - 2 := by omega
          have t16 : ((k : Int) - 16).toNat = k - 16 := by omega
          have t7 : ((k : Int) - 7).toNat = k - 7 := by omega
          have i15 : (k : Int) - 15 < 64 := by omega
          have i2 : (k : Int) - 2 < 64 := by omega
          have i16 : (k : Int) - 16 < 64 := by omega
          have i7 : (k : Int) - 7 < 64 := by omega
          have j15 : 0 ≤ (k : Int) - 15 := by omega
          have j2 : 0 ≤ (k : Int) - 2 := by omega
          have j16 : 0 ≤ (k : Int) - 16 := by omega
          have j7 : 0 ≤ (k : Int) - 7 := by omega
          have q16 : (16 : Int) ≤ k := by omega
          have q7 : (7 : Int) ≤ k := by omega
          have q15 : (15 : Int) ≤ k := by omega
          have q2 : (2 : Int) ≤ k := by omega
          have c15 := wl_cell h1 (show k - 15 < k by omega)
          have c2 := wl_cell h1 (show k - 2 < k by omega)
          have c16 := wl_cell h1 (show k - 16 < k by omega)
          have c7 := wl_cell h1 (show k - 7 < k by omega)
          have EW := Lib.hid (wl_high l k hk16)
          generalize (wl l k).getD (k - 15) 0 = x15 at c15 EW
          generalize (wl l k).getD (k - 2) 0 = x2 at c2 EW
          generalize (wl l k).getD (k - 16) 0 = x16 at c16 EW
          generalize (wl l k).getD (k - 7) 0 = x7 at c7 EW
          have H0 := Lib.hid h0
          have H1 := Lib.hid h1
          clear h0 h1
          go_upto_region 10 with fail
          go_quiet (fail)
          have hb := below_drewN' hb nq
          have H0 : Hid ((wr.drewN nq).heap[g0]? = some (.cells (wv z64).toArray 81 (0, 0))) := H0
          have H1 : Hid ((wr.drewN nq).heap[g1]? = some (.cells (wv (wl l k ++ List.replicate (64 - k) 0)).toArray 81 (0, 0))) := H1
          have c16 : (wr.drewN nq).cell? ⟨g1, k - 16, none⟩ = some (.int .u32 (x16.toNat : Int)) := c16
          have c7 : (wr.drewN nq).cell? ⟨g1, k - 7, none⟩ = some (.int .u32 (x7.toNat : Int)) := c7
          generalize wr.drewN nq = w3 at *
          go_upto_region 11 with fail
          refine wp_region_still_tail 29 (by kernel_rfl) (by kernel_rfl) ?_
          simp only [List.take_succ_cons, List.take_zero, List.drop_succ_cons, List.drop_zero]
          repeat still_step
          still_call (right_st x15 7 7 rfl (by omega) (by omega) _)
          repeat still_step
          still_call (right_st x15 18 18 rfl (by omega) (by omega) _)
          repeat still_step
          still_call (right_st x2 17 17 rfl (by omega) (by omega) _)
          repeat still_step
          still_call (right_st x2 19 19 rfl (by omega) (by omega) _)
          repeat still_step
          refine wpStill_nil ?_
          change wpList _ _ _ _ _ w3.drew
          have hb := hb.drew
          have H0 : Hid (w3.drew.heap[g0]? = some (.cells (wv z64).toArray 81 (0, 0))) := H0
          have H1 : Hid (w3.drew.heap[g1]? = some (.cells (wv (wl l k ++ List.replicate (64 - k) 0)).toArray 81 (0, 0))) := H1
          generalize w3.drew = w4 at *
          have d1 : w4.cell? ⟨g1, k, none⟩ = some (.int .u32 (((wl l k ++ List.replicate (64 - k) 0).getD k 0).toNat : Int)) := wv_cell H1.out (by simp [length_wl]; omega)
          have f1 : w4.frozen? ⟨g1, k, none⟩ = false := free_of_block H1.out
          clear e15 e2 e16 e7 t15 t2 t16 t7 i15 i2 i16 i7 j15 j2 j16 j7 c15 c2 c16 c7
          have E1 := Lib.hid (next_code x16 x15 x7 x2)
          go_wp2_with fail
          go_roundw
          case rel =>
            refine ⟨k + 1, by omega, by omega, by go_num, hb.setCell hB1 _, by rw [Below.heap_setCell _ _ _ _ hne]; exact H0.out, ?_⟩
            rw [E1.out, wv_setCell H1.out, wl_set l k (by omega) _ (by simp) _ EW.out, List.tail_replicate, Nat.sub_sub]
          case measure => simp [intOf]; omega
        · obtain rfl : k = 64 := by omega
          have hsz : (wl l 64).length = 64 := length_wl l 64
          generalize hL : wl l 64 = L at h1 hsz
          have HE := Lib.hid hL
          clear hL
          have h1 : wr.heap[g1]? = some (.cells (wv L).toArray 81 (0, 0)) := by rw [h1]; simp
          have HI : Hid ((Try.prog.info? 81).map (·.size) = some (wv L).toArray.size) := by
            show _ = _
            rw [keysInfo, size_wv, hsz]
          have HZ : Hid ((wv z64).toArray.size = (wv L).toArray.size) := by
            show _ = _
            rw [size_wv, size_wv, hsz, length_z64]
          have H0 := Lib.hid h0
          have H1 := Lib.hid h1
          clear hsz h0 h1
          go_wp2_with (first
            | (refine wpList_load_row rfl 81 _ rfl g1 rfl 81 (wv L).toArray (0, 0) _ H1.out keysUnder rfl HI.out ?_)
            | (refine wpList_store_row rfl 81 _ _ rfl g0 (wv L).toArray rfl rfl 81 (wv z64).toArray H0.out HI.out HZ.out (wv_one _) ?_))
          exact bodyPost_ret (v := .agg (wv L).toArray) (results_cell_row (p := 2) (ty := 81) rfl _ _ g0 81 (wv L).toArray (0, 0) _ rfl (setRow_block H0.out) keysUnder rfl HI.out) rfl ⟨by rw [HE.out], below_setRow hb hB _⟩
end Go.Proofs.Ytkncomkncfcecaa
