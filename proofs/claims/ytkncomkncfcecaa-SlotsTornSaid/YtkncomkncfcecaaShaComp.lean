/- The words of a piece. A piece is taken. -/
import Derived.Test.YtkncomkncfcecaaShaWord
import Derived.Test.YtkncomkncfcecaaRegion
import Derived.StillTailTactics
import Derived.Deep.QuietTactic
import Derived.BigQuiet
import Derived.Deep.DeepCutAuto
import Derived.Deep.CutBlock
import Derived.Deep.DeepMust
set_option linter.unusedVariables false
set_option linter.unusedSimpArgs false
namespace Go.Proofs.Ytkncomkncfcecaa
open Go.RowKit

theorem wl_cell {w : World} {g : Nat} {l : List UInt8} {k : Nat} {rest : List W32} {t : TypeId} {fr : Nat × Nat} (h : w.heap[g]? = some (.cells (wv (wl l k ++ rest)).toArray t fr)) {i : Nat} (hi : i < k) : w.cell? ⟨g, i, none⟩ = some (.int .u32 (((wl l k).getD i 0).toNat : Int)) := by
  rw [wv_cell h (i := i) (by simp [length_wl]; omega), List.getD_eq_getElem?_getD, List.getElem?_append_left (by rw [length_wl]; exact hi), List.getD_eq_getElem?_getD]
theorem byte_at {w : World} {b o n : Nat} {l : List UInt8} (h : Bs w (some ⟨b, o, none⟩) n l) {k : Nat} (hk : k < n) : ∃ x, Hid (l.getD k 0 = x) ∧ w.cell? ⟨b, o + k, none⟩ = some (.int .u8 ((x : UInt8).toNat : Int)) := by
  have hl : k < l.length := by rw [h.len]; exact hk
  refine ⟨l.getD k 0, rfl, ?_⟩
  rw [List.getD_eq_getElem?_getD, List.getElem?_eq_getElem hl]
  exact h.cellAt hl
set_option maxRecDepth 100000 in
set_option maxHeartbeats 2000000 in
theorem spread_any (A : Option Addr) (n c : Nat) (l : List UInt8) (w : World) (hA : Bs w A n l) (hn : 64 ≤ n) (hn2 : n ≤ 140737488355328) :
    Calls Try.prog 99 #[.slice A n c] w fun e w' => e = .returned (.agg (wv (wl l 64)).toArray) ∧ Below w.heap.size w w' := by
  obtain ⟨b, o, rfl⟩ := hA.some_ (by omega)
  go_enter Try.func99, Try.ntmps99
  go_wp2_with (with_reducible refine wpList_alloc_row rfl 81 rfl z64Zero ?_)
  obtain ⟨w2, hw2⟩ : ∃ w2, w2 = (w.alloc (.cells (wv z64).toArray 81)).alloc (.cells (wv z64).toArray 81) := ⟨_, rfl⟩
  have hb2 : Below w.heap.size w w2 := by rw [hw2]; exact ((Below.refl _ _).alloc (Nat.le_refl _) _).alloc (by simp) _
  have hg0 : w2.heap[w.heap.size]? = some (.cells (wv z64).toArray 81 (0, 0)) := by rw [hw2]; exact (two_new _ _ _).1
  have hg1 : w2.heap[w.heap.size + 1]? = some (.cells (wv z64).toArray 81 (0, 0)) := by rw [hw2]; exact (two_new _ _ _).2
  rw [← hw2]
  clear hw2
  have hsz := hb2.size
  obtain ⟨g0, hg0e⟩ : ∃ g0, w.heap.size = g0 := ⟨_, rfl⟩
  obtain ⟨g1, hg1e⟩ : ∃ g1, w.heap.size + 1 = g1 := ⟨_, rfl⟩
  rw [hg1e] at hg1 ⊢
  rw [hg0e] at hg0 ⊢
  have hne : g0 ≠ g1 := by omega
  have hB : w.heap.size ≤ g0 := by omega
  have hB1 : w.heap.size ≤ g1 := by omega
  clear hg0e hg1e hsz
  go_loopw [8] (fun i wr => ∃ (k : Nat), k ≤ 16 ∧ i = .int .i64 k ∧ Below w.heap.size w wr ∧ wr.heap[g0]? = some (.cells (wv z64).toArray 81 (0, 0)) ∧ wr.heap[g1]? = some (.cells (wv (wl l k ++ List.replicate (64 - k) 0)).toArray 81 (0, 0))) (fun i _ => 16 - (intOf i).toNat)
  case atStart => exact ⟨0, by omega, rfl, hb2, hg0, hg1⟩
  case round =>
    clear hb2 hg0 hg1
    obtain ⟨k, hk, rfl, hb, h0, h1⟩ := hrel
    by_cases hlt : k < 16
    · have hk1 : (k : Int) < 16 := by omega
      have hk64 : (k : Int) < 64 := by omega
      have hk0 : (0 : Int) ≤ k := by omega
      have e0 : IntKind.i64.wrap (4 * (k : Int)) = 4 * k := IntWalk.i64_in _ (by omega)
      have e1 : IntKind.i64.wrap (4 * (k : Int) + 1) = 4 * k + 1 := IntWalk.i64_in _ (by omega)
      have e2 : IntKind.i64.wrap (4 * (k : Int) + 2) = 4 * k + 2 := IntWalk.i64_in _ (by omega)
      have e3 : IntKind.i64.wrap (4 * (k : Int) + 3) = 4 * k + 3 := IntWalk.i64_in _ (by omega)
      have t0 : (4 * (k : Int)).toNat = 4 * k := by omega
      have t1 : (4 * (k : Int) + 1).toNat = 4 * k + 1 := by omega
      have t2 : (4 * (k : Int) + 2).toNat = 4 * k + 2 := by omega
      have t3 : (4 * (k : Int) + 3).toNat = 4 * k + 3 := by omega
      have i0 : 4 * (k : Int) < n := by omega
      have i1 : 4 * (k : Int) + 1 < n := by omega
      have i2 : 4 * (k : Int) + 2 < n := by omega
      have i3 : 4 * (k : Int) + 3 < n := by omega
      have j0 : 0 ≤ 4 * (k : Int) := by omega
      have j1 : 0 ≤ 4 * (k : Int) + 1 := by omega
      have j2 : 0 ≤ 4 * (k : Int) + 2 := by omega
      have j3 : 0 ≤ 4 * (k : Int) + 3 := by omega
      have hl := hA.len
      obtain ⟨x0, hx0, c0⟩ := byte_at hA (show 4 * k < n by omega)
      obtain ⟨x1, hx1, c1⟩ := byte_at hA (show 4 * k + 1 < n by omega)
      obtain ⟨x2, hx2, c2⟩ := byte_at hA (show 4 * k + 2 < n by omega)
      obtain ⟨x3, hx3, c3⟩ := byte_at hA (show 4 * k + 3 < n by omega)
      replace c0 := Keeps.of_below hb _ _ c0
      replace c1 := Keeps.of_below hb _ _ c1
      replace c2 := Keeps.of_below hb _ _ c2
      replace c3 := Keeps.of_below hb _ _ c3
      have HL := Lib.hid hl
      clear hl
      go_upto_region 5 with fail
      go_still_tail 35, (by kernel_rfl)
      change wpList _ _ _ _ _ wr.drew
      have hb := hb.drew
      have h0 : wr.drew.heap[g0]? = some (.cells (wv z64).toArray 81 (0, 0)) := h0
      have h1 : wr.drew.heap[g1]? = some (.cells (wv (wl l k ++ List.replicate (64 - k) 0)).toArray 81 (0, 0)) := h1
      generalize wr.drew = w3 at *
      have d1 : w3.cell? ⟨g1, k, none⟩ = some (.int .u32 (((wl l k ++ List.replicate (64 - k) 0).getD k 0).toNat : Int)) := wv_cell h1 (by simp [length_wl]; omega)
      have f1 : w3.frozen? ⟨g1, k, none⟩ = false := free_of_block h1
      have H0 := Lib.hid h0
      have H1 := Lib.hid h1
      have E1 : Hid _ := Lib.hid (be4_code x0 x1 x2 x3)
      have E2 : be4 x0 x1 x2 x3 = be32 l (4 * k) := by unfold be32; rw [hx0.out, hx1.out, hx2.out, hx3.out]
      have E2 := Lib.hid E2
      clear c0 c1 c2 c3 h0 h1 e0 e1 e2 e3 t0 t1 t2 t3 i0 i1 i2 i3 j0 j1 j2 j3 hx0 hx1 hx2 hx3
      go_wp2_with fail
      go_roundw
      case rel =>
        rw [E1.out, E2.out]
        refine ⟨k + 1, by omega, by go_num, hb.setCell hB1 _, ?_, ?_⟩
        · rw [Below.heap_setCell _ _ _ _ hne]; exact H0.out
        · rw [wv_setCell H1.out, wl_set l k (by omega) _ (by simp) _ (wl_low l k hlt), List.tail_replicate, Nat.sub_sub]
      case measure => simp [intOf]; omega
    · rw [show (k : Int) = 16 by omega]
      obtain rfl : k = 16 := by omega
      go_wp2_with fail
      go_loopw [5] (fun i wr => ∃ (k : Nat), 16 ≤ k ∧ k ≤ 64 ∧ i = .int .i64 k ∧ Below w.heap.size w wr ∧ wr.heap[g0]? = some (.cells (wv z64).toArray 81 (0, 0)) ∧ wr.heap[g1]? = some (.cells (wv (wl l k ++ List.replicate (64 - k) 0)).toArray 81 (0, 0))) (fun i _ => 64 - (intOf i).toNat)
      case atStart => exact ⟨16, by omega, by omega, rfl, hb, h0, h1⟩
      case round =>
        clear hb h0 h1
        obtain ⟨k, hk16, hk64, rfl, hb, h0, h1⟩ := hrel
        by_cases hlt : k < 64
        · have hk1 : (k : Int) < 64 := by omega
          have hk0 : (0 : Int) ≤ k := by omega
          have e15 : IntKind.i64.wrap ((k : Int) - 15) = k - 15 := IntWalk.i64_in _ (by omega)
          have e2 : IntKind.i64.wrap ((k : Int) - 2) = k - 2 := IntWalk.i64_in _ (by omega)
          have e16 : IntKind.i64.wrap ((k : Int) - 16) = k - 16 := IntWalk.i64_in _ (by omega)
          have e7 : IntKind.i64.wrap ((k : Int) - 7) = k - 7 := IntWalk.i64_in _ (by omega)
          have t15 : ((k : Int) - 15).toNat = k - 15 := by omega
          have t2 : ((k : Int) - 2).toNat = k - 2 := by omega
          have t16 : ((k : Int) - 16).toNat = k - 16 := by omega
          have t7 : ((k : Int) - 7).toNat = k - 7 := by omega
          have i15 : (k : Int) - 15 < 64 := by omega
          have i2 : (k : Int) - 2 < 64 := by omega
          have i16 : (k : Int) - 16 < 64 := by omega
          have i7 : (k : Int) - 7 < 64 := by omega
          have j15 : 0 ≤ (k : Int) - 15 := by omega
          have j2 : 0 ≤ (k : Int) - 2 := by omega
          have j16 : 0 ≤ (k : Int) - 16 := by omega
          have j7 : 0 ≤ (k : Int) - 7 := by omega
          have q16 : (16 : Int) ≤ k := by omega
          have q7 : (7 : Int) ≤ k := by omega
          have q15 : (15 : Int) ≤ k := by omega
          have q2 : (2 : Int) ≤ k := by omega
          have c15 := wl_cell h1 (show k - 15 < k by omega)
          have c2 := wl_cell h1 (show k - 2 < k by omega)
          have c16 := wl_cell h1 (show k - 16 < k by omega)
          have c7 := wl_cell h1 (show k - 7 < k by omega)
          have EW := Lib.hid (wl_high l k hk16)
          generalize (wl l k).getD (k - 15) 0 = x15 at c15 EW
          generalize (wl l k).getD (k - 2) 0 = x2 at c2 EW
          generalize (wl l k).getD (k - 16) 0 = x16 at c16 EW
          generalize (wl l k).getD (k - 7) 0 = x7 at c7 EW
          have H0 := Lib.hid h0
          have H1 := Lib.hid h1
          clear h0 h1
          go_upto_region 10 with fail
          go_quiet (fail)
          have hb := below_drewN' hb nq
          have H0 : Hid ((wr.drewN nq).heap[g0]? = some (.cells (wv z64).toArray 81 (0, 0))) := H0
          have H1 : Hid ((wr.drewN nq).heap[g1]? = some (.cells (wv (wl l k ++ List.replicate (64 - k) 0)).toArray 81 (0, 0))) := H1
          have c16 : (wr.drewN nq).cell? ⟨g1, k - 16, none⟩ = some (.int .u32 (x16.toNat : Int)) := c16
          have c7 : (wr.drewN nq).cell? ⟨g1, k - 7, none⟩ = some (.int .u32 (x7.toNat : Int)) := c7
          generalize wr.drewN nq = w3 at *
          go_upto_region 11 with fail
          refine wp_region_still_tail 29 (by kernel_rfl) (by kernel_rfl) ?_
          simp only [List.take_succ_cons, List.take_zero, List.drop_succ_cons, List.drop_zero]
          repeat still_step
          still_call (right_st x15 7 7 rfl (by omega) (by omega) _)
          repeat still_step
          still_call (right_st x15 18 18 rfl (by omega) (by omega) _)
          repeat still_step
          still_call (right_st x2 17 17 rfl (by omega) (by omega) _)
          repeat still_step
          still_call (right_st x2 19 19 rfl (by omega) (by omega) _)
          repeat still_step
          refine wpStill_nil ?_
          change wpList _ _ _ _ _ w3.drew
          have hb := hb.drew
          have H0 : Hid (w3.drew.heap[g0]? = some (.cells (wv z64).toArray 81 (0, 0))) := H0
          have H1 : Hid (w3.drew.heap[g1]? = some (.cells (wv (wl l k ++ List.replicate (64 - k) 0)).toArray 81 (0, 0))) := H1
          generalize w3.drew = w4 at *
          have d1 : w4.cell? ⟨g1, k, none⟩ = some (.int .u32 (((wl l k ++ List.replicate (64 - k) 0).getD k 0).toNat : Int)) := wv_cell H1.out (by simp [length_wl]; omega)
          have f1 : w4.frozen? ⟨g1, k, none⟩ = false := free_of_block H1.out
          clear e15 e2 e16 e7 t15 t2 t16 t7 i15 i2 i16 i7 j15 j2 j16 j7 c15 c2 c16 c7
          have E1 := Lib.hid (next_code x16 x15 x7 x2)
          go_wp2_with fail
          go_roundw
          case rel =>
            refine ⟨k + 1, by omega, by omega, by go_num, hb.setCell hB1 _, by rw [Below.heap_setCell _ _ _ _ hne]; exact H0.out, ?_⟩
            rw [E1.out, wv_setCell H1.out, wl_set l k (by omega) _ (by simp) _ EW.out, List.tail_replicate, Nat.sub_sub]
          case measure => simp [intOf]; omega
        · obtain rfl : k = 64 := by omega
          have hsz : (wl l 64).length = 64 := length_wl l 64
          generalize hL : wl l 64 = L at h1 hsz
          have HE := Lib.hid hL
          clear hL
          have h1 : wr.heap[g1]? = some (.cells (wv L).toArray 81 (0, 0)) := by rw [h1]; simp
          have HI : Hid ((Try.prog.info? 81).map (·.size) = some (wv L).toArray.size) := by
            show _ = _
            rw [keysInfo, size_wv, hsz]
          have HZ : Hid ((wv z64).toArray.size = (wv L).toArray.size) := by
            show _ = _
            rw [size_wv, size_wv, hsz, length_z64]
          have H0 := Lib.hid h0
          have H1 := Lib.hid h1
          clear hsz h0 h1
          go_wp2_with (first
            | (refine wpList_load_row rfl 81 _ rfl g1 rfl 81 (wv L).toArray (0, 0) _ H1.out keysUnder rfl HI.out ?_)
            | (refine wpList_store_row rfl 81 _ _ rfl g0 (wv L).toArray rfl rfl 81 (wv z64).toArray H0.out HI.out HZ.out (wv_one _) ?_))
          exact bodyPost_ret (v := .agg (wv L).toArray) (results_cell_row (p := 2) (ty := 81) rfl _ _ g0 81 (wv L).toArray (0, 0) _ rfl (setRow_block H0.out) keysUnder rfl HI.out) rfl ⟨by rw [HE.out], below_setRow hb hB _⟩
end Go.Proofs.Ytkncomkncfcecaa
set_option linter.unusedVariables false
set_option linter.unusedSimpArgs false
namespace Go.Proofs.Ytkncomkncfcecaa
open Go.RowKit

theorem z8_len : z8.length = 8 := List.length_replicate
theorem info64 (L : List W32) (h : L.length = 64) : (Try.prog.info? 81).map (·.size) = some (wv L).toArray.size := by rw [keysInfo, size_wv, h]
theorem info8 (L : List W32) (h : L.length = 8) : (Try.prog.info? 129).map (·.size) = some (wv L).toArray.size := by rw [stInfo, size_wv, h]
theorem size64 (L M : List W32) (h : L.length = 64) (h' : M.length = 64) : (wv L).toArray.size = (wv M).toArray.size := by rw [size_wv, size_wv, h, h']
theorem size8 (L M : List W32) (h : L.length = 8) (h' : M.length = 8) : (wv L).toArray.size = (wv M).toArray.size := by rw [size_wv, size_wv, h, h']
set_option maxRecDepth 100000 in
set_option maxHeartbeats 1000000 in
theorem add_any (s : ShaSt) (A : Option Addr) (n c : Nat) (l : List UInt8) (w : World) (hA : Bs w A n l) (hn : 64 ≤ n) (hn2 : n ≤ 140737488355328) :
    Calls Try.prog 87 #[.agg (wv s.words).toArray, .slice A n c] w fun e w' => e = .returned (.agg (wv (comp s l).words).toArray) ∧ Below w.heap.size w w' := by
  have HL := Lib.hid (length_wl l 64)
  obtain ⟨L, hL⟩ : ∃ L, wl l 64 = L := ⟨_, rfl⟩
  rw [hL] at HL
  obtain ⟨V, hV⟩ : ∃ V, (wv s.words).toArray = V := ⟨_, rfl⟩
  rw [hV]
  have HLE := Lib.hid hL
  have HV := Lib.hid hV
  clear hL hV
  go_enter Try.func87, Try.ntmps87
  go_upto_region 1 with (with_reducible refine wpList_alloc_row rfl 129 rfl z8Zero ?_)
  obtain ⟨w1, hw1⟩ : ∃ w1, w1 = (w.alloc (.cells V 129)).alloc (.cells (wv z8).toArray 129) := ⟨_, rfl⟩
  have hb1 : Below w.heap.size w w1 := by rw [hw1]; exact ((Below.refl _ _).alloc (Nat.le_refl _) _).alloc (by simp) _
  have h2 : w1.heap[w.heap.size]? = some (.cells V 129 (0, 0)) := by rw [hw1]; exact (two_new _ _ _).1
  have h4 : w1.heap[w.heap.size + 1]? = some (.cells (wv z8).toArray 129 (0, 0)) := by rw [hw1]; exact (two_new _ _ _).2
  have hA1 := hA.keep (.of_below hb1)
  have e2 : (w.alloc (.cells V 129)).heap.size = w.heap.size + 1 := by simp
  rw [e2, ← hw1]
  clear hw1 e2
  have z1 : w.heap.size + 1 < w1.heap.size := (Array.getElem?_eq_some_iff.1 h4).1
  obtain ⟨g2, hg2⟩ : ∃ g2, w.heap.size = g2 := ⟨_, rfl⟩
  obtain ⟨g4, hg4⟩ : ∃ g4, w.heap.size + 1 = g4 := ⟨_, rfl⟩
  rw [hg4] at h4 ⊢
  rw [hg2] at h2 ⊢
  have b2 : w.heap.size ≤ g2 := by omega
  have b4 : w.heap.size ≤ g4 := by omega
  have n24 : g2 ≠ g4 := by omega
  have l2 : g2 < w1.heap.size := by omega
  have l4 : g4 < w1.heap.size := by omega
  clear hg2 hg4 z1
  have H2 := Lib.hid h2
  have H4 := Lib.hid h4
  clear h2 h4
  have hsp := spread_any A n c l w1 hA1 hn hn2
  rw [HLE.out] at hsp
  have HSP := Lib.hid hsp
  clear hsp
  go_upto_region 2 with (first
    | (go_at_call 99; refine Calls.mono HSP.out ?_; rintro e w2 ⟨rfl, hb2⟩)
    | (go_at_call 100; refine Calls.mono (keys_any _) ?_; rintro e w3 ⟨rfl, hb3⟩)
    | (with_reducible refine wpList_alloc_row (o := ⟨some 5, _, _, _, _, _⟩) rfl 81 rfl z64Zero ?_)
    | ((with_reducible refine wpList_alloc_row (o := ⟨some 6, _, _, _, _, _⟩) rfl 81 rfl z64Zero ?_); (refine wpList_store_row rfl 81 (.tmp 5) (.tmp 15) rfl w3.heap.size (wv L).toArray rfl rfl 81 (wv z64).toArray (two_new _ _ _).1 (info64 L HL.out) (size64 _ _ length_z64 HL.out) (wv_one _) ?_); (refine wpList_store_row rfl 81 (.tmp 6) _ rfl (w3.heap.size + 1) (wv ks).toArray (by simp [Act.eval, Act.put]) rfl 81 (wv z64).toArray (by rw [setRow_other _ _ _ _ (by omega)]; exact (two_new _ _ _).2) (info64 ks length_ks) (size64 _ _ length_z64 length_ks) (wv_one _) ?_)))
  obtain ⟨w4, hw4⟩ : ∃ w4, w4 = (((w3.alloc (.cells (wv z64).toArray 81)).alloc (.cells (wv z64).toArray 81)).setRow w3.heap.size (wv L).toArray).setRow (w3.heap.size + 1) (wv ks).toArray := ⟨_, rfl⟩
  have hb13 := below_two hb2 hb3
  have s3 := hb13.size
  have hb4 : Below w1.heap.size w1 w4 := by
    rw [hw4]
    exact below_setRow (below_setRow ((hb13.alloc s3 _).alloc (by simp; omega) _) s3 _) (by omega) _
  have h5 : w4.heap[w3.heap.size]? = some (.cells (wv L).toArray 81 (0, 0)) := by
    rw [hw4, setRow_other _ _ _ _ (by omega)]
    exact setRow_block (two_new _ _ _).1
  have h6 : w4.heap[w3.heap.size + 1]? = some (.cells (wv ks).toArray 81 (0, 0)) := by
    rw [hw4]
    exact setRow_block (by rw [setRow_other _ _ _ _ (by omega)]; exact (two_new _ _ _).2)
  have es : (w3.alloc (.cells (wv z64).toArray 81)).heap.size = w3.heap.size + 1 := by simp
  rw [es, ← hw4]
  clear hw4 es HSP hA1
  have z6 : w3.heap.size + 1 < w4.heap.size := (Array.getElem?_eq_some_iff.1 h6).1
  have H2 : Hid (w4.heap[g2]? = some (.cells V 129 (0, 0))) := by show _ = _; rw [hb4.block g2 l2]; exact H2.out
  have H4 : Hid (w4.heap[g4]? = some (.cells (wv z8).toArray 129 (0, 0))) := by show _ = _; rw [hb4.block g4 l4]; exact H4.out
  obtain ⟨g5, hg5⟩ : ∃ g5, w3.heap.size = g5 := ⟨_, rfl⟩
  obtain ⟨g6, hg6⟩ : ∃ g6, w3.heap.size + 1 = g6 := ⟨_, rfl⟩
  rw [hg6] at h6 ⊢
  rw [hg5] at h5 ⊢
  have z1 := hb1.size
  have b5 : w.heap.size ≤ g5 := by omega
  have b6 : w.heap.size ≤ g6 := by omega
  have n25 : g2 ≠ g5 := by omega
  have n26 : g2 ≠ g6 := by omega
  have n45 : g4 ≠ g5 := by omega
  have n46 : g4 ≠ g6 := by omega
  have n56 : g5 ≠ g6 := by omega
  have l5 : g5 < w4.heap.size := by omega
  have l6 : g6 < w4.heap.size := by omega
  have l2 : g2 < w4.heap.size := by omega
  have l4 : g4 < w4.heap.size := by omega
  have hbw := below_then hb1 hb4 z1
  have H5 := Lib.hid h5
  have H6 := Lib.hid h6
  have HVI : Hid ((Try.prog.info? 129).map (·.size) = some V.size) := by show _ = _; rw [← HV.out]; exact info8 _ rfl
  have HVS : Hid ((wv z8).toArray.size = V.size) := by show _ = _; rw [← HV.out]; exact size8 _ _ z8_len rfl
  have HVO : Hid (V.all (·.oneCell') = true) := by show _ = _; rw [← HV.out]; exact wv_one _
  clear hg5 hg6 z6 s3 hb13 hb2 hb3 h5 h6 z1 hb4 hb1
  go_upto_region 3 with (first
    | (refine wpList_load_row rfl 129 _ rfl g2 rfl 129 V (0, 0) _ H2.out stUnder rfl HVI.out ?_)
    | ((with_reducible refine wpList_alloc_row (o := ⟨some 7, _, _, _, _, _⟩) rfl 129 rfl z8Zero ?_); (refine wpList_store_row rfl 129 (.tmp 7) (.tmp 17) rfl w4.heap.size V rfl rfl 129 (wv z8).toArray (heap_alloc_new _ _) HVI.out HVS.out HVO.out ?_)))
  obtain ⟨w5, hw5⟩ : ∃ w5, w5 = (w4.alloc (.cells (wv z8).toArray 129)).setRow w4.heap.size V := ⟨_, rfl⟩
  have hb5 : Below w4.heap.size w4 w5 := by rw [hw5]; exact below_setRow ((Below.refl _ _).alloc (Nat.le_refl _) _) (Nat.le_refl _) _
  have h7 : w5.heap[w4.heap.size]? = some (.cells V 129 (0, 0)) := by rw [hw5]; exact setRow_block (heap_alloc_new _ _)
  rw [← hw5]
  clear hw5
  obtain ⟨g7, hg7⟩ : ∃ g7, w4.heap.size = g7 := ⟨_, rfl⟩
  rw [hg7] at h7 ⊢
  have b7 : w.heap.size ≤ g7 := by have := hbw.size; omega
  have n27 : g2 ≠ g7 := by omega
  have n47 : g4 ≠ g7 := by omega
  have n57 : g5 ≠ g7 := by omega
  have n67 : g6 ≠ g7 := by omega
  have h2 : w5.heap[g2]? = some (.cells V 129 (0, 0)) := by rw [hb5.block g2 l2]; exact H2.out
  have h4 : w5.heap[g4]? = some (.cells (wv z8).toArray 129 (0, 0)) := by rw [hb5.block g4 l4]; exact H4.out
  have h5 : w5.heap[g5]? = some (.cells (wv L).toArray 81 (0, 0)) := by rw [hb5.block g5 l5]; exact H5.out
  have h6 : w5.heap[g6]? = some (.cells (wv ks).toArray 81 (0, 0)) := by rw [hb5.block g6 l6]; exact H6.out
  have hbz := below_then hbw hb5 hbw.size
  clear hg7 hbw hb5 H2 H4 H5 H6 l2 l4 l5 l6 HVI HVS HVO
  obtain ⟨t0, ht0⟩ : ∃ t0, t0 = s := ⟨_, rfl⟩
  have h7 : w5.heap[g7]? = some (.cells (wv t0.words).toArray 129 (0, 0)) := by rw [h7, ← HV.out, ht0]
  have HT : Hid (t0 = rounds l s 0) := ht0
  clear ht0
  go_wp2_with fail
  go_loopw [18] (fun i wr => ∃ (k : Nat) (t : ShaSt), k ≤ 64 ∧ i = .int .i64 k ∧ Hid (t = rounds l s k) ∧ Below w.heap.size w wr ∧ wr.heap[g2]? = some (.cells V 129 (0, 0)) ∧ wr.heap[g4]? = some (.cells (wv z8).toArray 129 (0, 0)) ∧
    wr.heap[g5]? = some (.cells (wv L).toArray 81 (0, 0)) ∧ wr.heap[g6]? = some (.cells (wv ks).toArray 81 (0, 0)) ∧ wr.heap[g7]? = some (.cells (wv t.words).toArray 129 (0, 0))) (fun i _ => 64 - (intOf i).toNat)
  case atStart => exact ⟨0, t0, by omega, rfl, HT, hbz, h2, h4, h5, h6, h7⟩
  case round =>
    clear hbz h2 h4 h5 h6 h7 HT
    obtain ⟨k, t, hk, rfl, HT, hb, h2, h4, h5, h6, h7⟩ := hrel
    by_cases hlt : k < 64
    · have hk1 : (k : Int) < 64 := by omega
      have hk0 : (0 : Int) ≤ k := by omega
      have c0 : wr.cell? ⟨g7, 0, none⟩ = some (.int .u32 (t.a.toNat : Int)) := cell_of_block h7 rfl
      have c1 : wr.cell? ⟨g7, 1, none⟩ = some (.int .u32 (t.b.toNat : Int)) := cell_of_block h7 rfl
      have c2 : wr.cell? ⟨g7, 2, none⟩ = some (.int .u32 (t.c.toNat : Int)) := cell_of_block h7 rfl
      have c3 : wr.cell? ⟨g7, 3, none⟩ = some (.int .u32 (t.d.toNat : Int)) := cell_of_block h7 rfl
      have c4 : wr.cell? ⟨g7, 4, none⟩ = some (.int .u32 (t.e.toNat : Int)) := cell_of_block h7 rfl
      have c5 : wr.cell? ⟨g7, 5, none⟩ = some (.int .u32 (t.f.toNat : Int)) := cell_of_block h7 rfl
      have c6 : wr.cell? ⟨g7, 6, none⟩ = some (.int .u32 (t.g.toNat : Int)) := cell_of_block h7 rfl
      have c7 : wr.cell? ⟨g7, 7, none⟩ = some (.int .u32 (t.h.toNat : Int)) := cell_of_block h7 rfl
      have cw : wr.cell? ⟨g5, k, none⟩ = some (.int .u32 ((L.getD k 0).toNat : Int)) := wv_cell h5 (by rw [HL.out]; exact hlt)
      have ck : wr.cell? ⟨g6, k, none⟩ = some (.int .u32 ((ks.getD k 0).toNat : Int)) := wv_cell h6 (by rw [length_ks]; exact hlt)
      obtain ⟨xw, hxw⟩ : ∃ x, L.getD k 0 = x := ⟨_, rfl⟩
      obtain ⟨xk, hxk⟩ : ∃ x, ks.getD k 0 = x := ⟨_, rfl⟩
      rw [hxw] at cw
      rw [hxk] at ck
      have HXW := Lib.hid hxw
      have HXK := Lib.hid hxk
      have H2 := Lib.hid h2
      have H4 := Lib.hid h4
      have H5 := Lib.hid h5
      have H6 := Lib.hid h6
      have H7 := Lib.hid h7
      clear hxw hxk h2 h4 h5 h6 h7
      go_upto_region 6 with fail
      go_quiet (fail)
      obtain ⟨w6, e6⟩ : ∃ w6, w6 = wr.drewN nq := ⟨_, rfl⟩
      have q6 : ∀ p, wr.cell? p = w6.cell? p := by rw [e6]; intro p; rfl
      have E6 : Hid (w6.heap = wr.heap) := by show _ = _; rw [e6]; rfl
      have hb : Below w.heap.size w w6 := by rw [e6]; exact below_drewN' hb nq
      rw [q6] at c0 c1 c2 c3 c4 c5 c6 c7 cw ck
      rw [← e6]
      clear e6 q6
      go_upto_region 7 with fail
      refine wp_region_still_lit (by kernel_rfl) (by kernel_rfl) ?_
      change wpStill _ _ w6.drew _ _ _
      repeat still_step
      still_call (right_st t.e 6 6 rfl (by omega) (by omega) _)
      repeat still_step
      still_call (right_st t.e 11 11 rfl (by omega) (by omega) _)
      repeat still_step
      still_call (right_st t.e 25 25 rfl (by omega) (by omega) _)
      repeat still_step
      refine wpStill_nil ?_
      rw [shaX_code]
      obtain ⟨X, hX⟩ : ∃ X, shaX t xk xw = X := ⟨_, rfl⟩
      rw [hX]
      have HX := Lib.hid hX
      clear hX
      obtain ⟨w7, e7⟩ : ∃ w7, w7 = w6.drew := ⟨_, rfl⟩
      have q7 : ∀ p, w6.cell? p = w7.cell? p := by rw [e7]; intro p; rfl
      have E7 : Hid (w7.heap = wr.heap) := by show _ = _; rw [e7]; exact E6.out
      have hb : Below w.heap.size w w7 := by rw [e7]; exact hb.drew
      rw [q7] at c0 c1 c2 c3 c4 c5 c6 c7
      change Exit.then _ _ _ _ w6.drew
      rw [← e7]
      clear e7 q7 cw ck E6
      go_upto_region 8 with fail
      refine wp_region_still_lit (by kernel_rfl) (by kernel_rfl) ?_
      change wpStill _ _ w7.drew _ _ _
      repeat still_step
      still_call (right_st t.a 2 2 rfl (by omega) (by omega) _)
      repeat still_step
      still_call (right_st t.a 13 13 rfl (by omega) (by omega) _)
      repeat still_step
      still_call (right_st t.a 22 22 rfl (by omega) (by omega) _)
      repeat still_step
      refine wpStill_nil ?_
      rw [shaY_code]
      obtain ⟨Y, hY⟩ : ∃ Y, shaY t = Y := ⟨_, rfl⟩
      rw [hY]
      have HY := Lib.hid hY
      clear hY
      obtain ⟨w8, e8⟩ : ∃ w8, w8 = w7.drew := ⟨_, rfl⟩
      have q8 : ∀ p, w7.cell? p = w8.cell? p := by rw [e8]; intro p; rfl
      have E8 : Hid (w8.heap = wr.heap) := by show _ = _; rw [e8]; exact E7.out
      have hb : Below w.heap.size w w8 := by rw [e8]; exact hb.drew
      rw [q8] at c0 c1 c2 c3 c4 c5 c6 c7
      change Exit.then _ _ _ _ w7.drew
      rw [← e8]
      clear e8 q8 E7
      obtain ⟨Z, hZ⟩ : ∃ Z, X + Y = Z := ⟨_, rfl⟩
      obtain ⟨D, hD⟩ : ∃ D, t.d + X = D := ⟨_, rfl⟩
      have a1 := add_code X Y
      have a2 := add_code' X Y
      have a3 := add_code t.d X
      have a4 := add_code' t.d X
      rw [hZ] at a1 a2
      rw [hD] at a3 a4
      have HZ := Lib.hid hZ
      have HD := Lib.hid hD
      clear hZ hD
      have H7 : Hid (w8.heap[g7]? = some (.cells (wv t.words).toArray 129 (0, 0))) := by show _ = _; rw [E8.out]; exact H7.out
      have I8 : Hid ((Try.prog.info? 129).map (·.size) = some (wv (ShaSt.words ⟨Z, t.a, t.b, t.c, D, t.e, t.f, t.g⟩)).toArray.size) := info8 _ rfl
      have S8 : Hid ((wv t.words).toArray.size = (wv (ShaSt.words ⟨Z, t.a, t.b, t.c, D, t.e, t.f, t.g⟩)).toArray.size) := size8 _ _ rfl rfl
      go_upto_region 10 with (first
        | ((with_reducible refine wpList_buildTo (o := ⟨some 98, _, _, _, _, _⟩) rfl 129 _ rfl (wv (ShaSt.words ⟨Z, t.a, t.b, t.c, D, t.e, t.f, t.g⟩)).toArray (by kernel_rfl) ?_))
        | (with_reducible refine wpList_store_row (o := ⟨none, .store 129 (.tmp 7) (.tmp 98), _, _, _, _⟩) rfl 129 (.tmp 7) (.tmp 98) rfl g7 ?cells ?hx ?hy ?t ?old ?hg ?i8 ?s8 ?wv ?h))
      case hy => rfl
      case hg => exact H7.out
      case i8 => exact I8.out
      case s8 => exact S8.out
      case wv => exact wv_one _
      clear c0 c1 c2 c3 c4 c5 c6 c7 a1 a2 a3 a4
      go_wp2_with fail
      go_roundw
      case rel =>
        refine ⟨k + 1, ⟨Z, t.a, t.b, t.c, D, t.e, t.f, t.g⟩, by omega, by go_num, ?_, below_setRow hb b7 _, ?_, ?_, ?_, ?_, setRow_block H7.out⟩
        · show _ = shaRound (rounds l s k) (ks.getD k 0) ((wl l 64).getD k 0)
          rw [← HT.out, HXK.out, HLE.out, HXW.out]
          unfold shaRound
          rw [HX.out, HY.out, HZ.out, HD.out]
        · rw [setRow_other _ _ _ _ n27, E8.out]; exact H2.out
        · rw [setRow_other _ _ _ _ n47, E8.out]; exact H4.out
        · rw [setRow_other _ _ _ _ n57, E8.out]; exact H5.out
        · rw [setRow_other _ _ _ _ n67, E8.out]; exact H6.out
      case measure => simp [intOf]; omega
    · rw [show (k : Int) = 64 by omega]
      obtain rfl : k = 64 := by omega
      rw [← HV.out] at h2
      have hT : Hid (addW t.words s.words 0 = t.words) := rfl
      have h7 : wr.heap[g7]? = some (.cells (wv (addW t.words s.words 0)).toArray 129 (0, 0)) := by rw [hT.out]; exact h7
      go_wp2_with fail
      go_loopw [100] (fun i wr => ∃ (j : Nat), j ≤ 8 ∧ i = .int .i64 j ∧ Below w.heap.size w wr ∧ wr.heap[g2]? = some (.cells (wv s.words).toArray 129 (0, 0)) ∧ wr.heap[g4]? = some (.cells (wv z8).toArray 129 (0, 0)) ∧
        wr.heap[g7]? = some (.cells (wv (addW t.words s.words j)).toArray 129 (0, 0))) (fun i _ => 8 - (intOf i).toNat)
      case atStart => exact ⟨0, by omega, rfl, hb, h2, h4, h7⟩
      case round =>
        clear hb h2 h4 h5 h6 h7
        obtain ⟨j, hj, rfl, hb, h2, h4, h7⟩ := hrel
        by_cases hlt : j < 8
        · have hj1 : (j : Int) < 8 := by omega
          have hj0 : (0 : Int) ≤ j := by omega
          have ct := wv_cell h7 (i := j) (by rw [length_addW t.words s.words rfl j hj]; exact hlt)
          have cs := wv_cell h2 (i := j) hlt
          have hst := addW_set t.words s.words rfl j hlt
          rw [addW_get t.words s.words rfl j hlt] at ct
          obtain ⟨xt, hxt⟩ : ∃ x, t.words.getD j 0 = x := ⟨_, rfl⟩
          obtain ⟨xs, hxs⟩ : ∃ x, s.words.getD j 0 = x := ⟨_, rfl⟩
          rw [hxt] at ct hst
          rw [hxs] at cs hst
          have HST := Lib.hid hst
          have H2 := Lib.hid h2
          have H4 := Lib.hid h4
          have H7 := Lib.hid h7
          clear hst hxt hxs h2 h4 h7
          go_upto_region 14 with fail
          go_still_tail 8, (by kernel_rfl)
          change wpList _ _ _ _ _ wr.drew
          have hb := hb.drew
          have H2 : Hid (wr.drew.heap[g2]? = some (.cells (wv s.words).toArray 129 (0, 0))) := H2
          have H4 : Hid (wr.drew.heap[g4]? = some (.cells (wv z8).toArray 129 (0, 0))) := H4
          have H7 : Hid (wr.drew.heap[g7]? = some (.cells (wv (addW t.words s.words j)).toArray 129 (0, 0))) := H7
          have ct : wr.drew.cell? ⟨g7, j, none⟩ = some (.int .u32 (xt.toNat : Int)) := ct
          have f1 : wr.drew.frozen? ⟨g7, j, none⟩ = false := free_of_block H7.out
          generalize wr.drew = w3 at *
          have a1 := Lib.hid (add_code' xt xs)
          clear cs
          go_wp2_with fail
          go_roundw
          case rel =>
            refine ⟨j + 1, by omega, by go_num, hb.setCell b7 _, ?_, ?_, ?_⟩
            · rw [Below.heap_setCell _ _ _ _ n27]; exact H2.out
            · rw [Below.heap_setCell _ _ _ _ n47]; exact H4.out
            · rw [a1.out, wv_setCell H7.out, HST.out]
          case measure => simp [intOf]; omega
        · obtain rfl : j = 8 := by omega
          rw [addW_all] at h7
          have hF : (addSt s t).words = (comp s l).words := by unfold comp; rw [← HT.out]
          rw [hF] at h7
          obtain ⟨F, hFe⟩ : ∃ F, (comp s l).words = F := ⟨_, rfl⟩
          have hFl : F.length = 8 := by rw [← hFe]; rfl
          rw [hFe] at h7
          have HFE := Lib.hid hFe
          have I8 := Lib.hid (info8 F hFl)
          have S8 := Lib.hid (size8 z8 F z8_len hFl)
          have H4 := Lib.hid h4
          have H7 := Lib.hid h7
          clear hF hFe hFl h4 h7 h2
          go_wp2_with (first
            | (refine wpList_load_row rfl 129 _ rfl g7 rfl 129 (wv F).toArray (0, 0) _ H7.out stUnder rfl I8.out ?_)
            | (refine wpList_store_row rfl 129 _ _ rfl g4 (wv F).toArray rfl rfl 129 (wv z8).toArray H4.out I8.out S8.out (wv_one _) ?_))
          exact bodyPost_ret (v := .agg (wv F).toArray) (results_cell_row (p := 4) (ty := 129) rfl _ _ g4 129 (wv F).toArray (0, 0) _ rfl (setRow_block H4.out) stUnder rfl I8.out) rfl ⟨by rw [HFE.out], below_setRow hb b4 _⟩
end Go.Proofs.Ytkncomkncfcecaa
