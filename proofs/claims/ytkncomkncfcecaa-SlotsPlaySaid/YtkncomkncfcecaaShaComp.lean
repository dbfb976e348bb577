/- A piece is taken. -/
import Derived.Test.YtkncomkncfcecaaShaSpread
import Derived.Deep.DeepMust
set_option linter.unusedVariables false
set_option linter.unusedSimpArgs false
namespace Go.Proofs.Ytkncomkncfcecaa
open Go.RowKit
theorem z8_len : z8.length = 8 := List.length_replicate
theorem info64 (L : List W32) (h : L.length = 64) : (Try.prog.info? 81).map (·.size) = some (wv L).toArray.size := by rw [keysInfo, XJ, h]
theorem info8 (L : List W32) (h : L.length = 8) : (Try.prog.info? 129).map (·.size) = some (wv L).toArray.size := by rw [stInfo, XJ, h]
theorem size64 (L M : List W32) (h : L.length = 64) (h' : M.length = 64) : (wv L).toArray.size = (wv M).toArray.size := by rw [XJ, XJ, h, h']
theorem size8 (L M : List W32) (h : L.length = 8) (h' : M.length = 8) : (wv L).toArray.size = (wv M).toArray.size := by rw [XJ, XJ, h, h']
set_option maxRecDepth 100000 in
set_option maxHeartbeats 1000000 in
theorem add_any (s : ShaSt) (A : Option Addr) (n c : Nat) (l : List UInt8) (w : World) (hA : Bs w A n l) (hn : 64 ≤ n) (hn2 : n ≤ 140737488355328) :
    Calls Try.prog 87 #[.agg (wv s.words).toArray, .slice A n c] w fun e w' => e = .returned (.agg (wv (comp s l).words).toArray) ∧ Below w.heap.size w w' := by
  have HL := Lib.hid (YJ l 64)
  obtain ⟨L, hL⟩ : ∃ L, wl l 64 = L := ⟨_, rfl⟩
  rw [hL] at HL
  obtain ⟨V, hV⟩ : ∃ V, (wv s.words).toArray = V := ⟨_, rfl⟩
  rw [hV]
  have HLE := Lib.hid hL
  have HV := Lib.hid hV
  clear hL hV
  go_enter Try.func87, Try.ntmps87
  go_upto_region 1 with (with_reducible refine Yg rfl 129 rfl z8Zero ?_)
  obtain ⟨w1, hw1⟩ : ∃ w1, w1 = (w.alloc (.cells V 129)).alloc (.cells (wv z8).toArray 129) := ⟨_, rfl⟩
  have hb1 : Below w.heap.size w w1 := by rw [hw1]; exact ((Below.refl _ _).alloc (Nat.le_refl _) _).alloc (by simp) _
  have h2 : w1.heap[w.heap.size]? = some (.cells V 129 (0, 0)) := by rw [hw1]; exact (Wp _ _ _).1
  have h4 : w1.heap[w.heap.size + 1]? = some (.cells (wv z8).toArray 129 (0, 0)) := by rw [hw1]; exact (Wp _ _ _).2
  have hA1 := hA.keep (.of_below hb1)
  have e2 : (w.alloc (.cells V 129)).heap.size = w.heap.size + 1 := by simp
  rw [e2, ← hw1]
  clear hw1 e2
  have z1 : w.heap.size + 1 < w1.heap.size := (Array.getElem?_eq_some_iff.1 h4).1
  obtain ⟨g2, hg2⟩ : ∃ g2, w.heap.size = g2 := ⟨_, rfl⟩
  obtain ⟨g4, hg4⟩ : ∃ g4, w.heap.size + 1 = g4 := ⟨_, rfl⟩
  rw [hg4] at h4 ⊢
  rw [hg2] at h2 ⊢
  have b2 : w.heap.size ≤ g2 := by omega
  have b4 : w.heap.size ≤ g4 := by omega
  have n24 : g2 ≠ g4 := by omega
  have l2 : g2 < w1.heap.size := by omega
  have l4 : g4 < w1.heap.size := by omega
  clear hg2 hg4 z1
  have H2 := Lib.hid h2
  have H4 := Lib.hid h4
  clear h2 h4
  have hsp := spread_any A n c l w1 hA1 hn hn2
  rw [HLE.out] at hsp
  have HSP := Lib.hid hsp
  clear hsp
  go_upto_region 2 with (first
    | (go_at_call 99; refine Calls.mono HSP.out ?_; rintro e w2 ⟨rfl, hb2⟩)
    | (go_at_call 100; refine Calls.mono (keys_any _) ?_; rintro e w3 ⟨rfl, hb3⟩)
    | (with_reducible refine Yg (o := ⟨some 5, _, _, _, _, _⟩) rfl 81 rfl z64Zero ?_)
    | ((with_reducible refine Yg (o := ⟨some 6, _, _, _, _, _⟩) rfl 81 rfl z64Zero ?_); (refine wpList_store_row rfl 81 (.tmp 5) (.tmp 15) rfl w3.heap.size (wv L).toArray rfl rfl 81 (wv z64).toArray (Wp _ _ _).1 (info64 L HL.out) (size64 _ _ XR HL.out) (X6 _) ?_); (refine wpList_store_row rfl 81 (.tmp 6) _ rfl (w3.heap.size + 1) (wv ks).toArray (by simp [Act.eval, Act.put]) rfl 81 (wv z64).toArray (by rw [setRow_other _ _ _ _ (by omega)]; exact (Wp _ _ _).2) (info64 ks XN) (size64 _ _ XR XN) (X6 _) ?_)))
  obtain ⟨w4, hw4⟩ : ∃ w4, w4 = (((w3.alloc (.cells (wv z64).toArray 81)).alloc (.cells (wv z64).toArray 81)).setRow w3.heap.size (wv L).toArray).setRow (w3.heap.size + 1) (wv ks).toArray := ⟨_, rfl⟩
  have hb13 := X5 hb2 hb3
  have s3 := hb13.size
  have hb4 : Below w1.heap.size w1 w4 := by
    rw [hw4]
    exact ZY (ZY ((hb13.alloc s3 _).alloc (by simp; omega) _) s3 _) (by omega) _
  have h5 : w4.heap[w3.heap.size]? = some (.cells (wv L).toArray 81 (0, 0)) := by
    rw [hw4, setRow_other _ _ _ _ (by omega)]
    exact ZQ (Wp _ _ _).1
  have h6 : w4.heap[w3.heap.size + 1]? = some (.cells (wv ks).toArray 81 (0, 0)) := by
    rw [hw4]
    exact ZQ (by rw [setRow_other _ _ _ _ (by omega)]; exact (Wp _ _ _).2)
  have es : (w3.alloc (.cells (wv z64).toArray 81)).heap.size = w3.heap.size + 1 := by simp
  rw [es, ← hw4]
  clear hw4 es HSP hA1
  have z6 : w3.heap.size + 1 < w4.heap.size := (Array.getElem?_eq_some_iff.1 h6).1
  have H2 : Hid (w4.heap[g2]? = some (.cells V 129 (0, 0))) := by show _ = _; rw [hb4.block g2 l2]; exact H2.out
  have H4 : Hid (w4.heap[g4]? = some (.cells (wv z8).toArray 129 (0, 0))) := by show _ = _; rw [hb4.block g4 l4]; exact H4.out
  obtain ⟨g5, hg5⟩ : ∃ g5, w3.heap.size = g5 := ⟨_, rfl⟩
  obtain ⟨g6, hg6⟩ : ∃ g6, w3.heap.size + 1 = g6 := ⟨_, rfl⟩
  rw [hg6] at h6 ⊢
  rw [hg5] at h5 ⊢
  have z1 := hb1.size
  have b5 : w.heap.size ≤ g5 := by omega
  have b6 : w.heap.size ≤ g6 := by omega
  have n25 : g2 ≠ g5 := by omega
  have n26 : g2 ≠ g6 := by omega
  have n45 : g4 ≠ g5 := by omega
  have n46 : g4 ≠ g6 := by omega
  have n56 : g5 ≠ g6 := by omega
  have l5 : g5 < w4.heap.size := by omega
  have l6 : g6 < w4.heap.size := by omega
  have l2 : g2 < w4.heap.size := by omega
  have l4 : g4 < w4.heap.size := by omega
  have hbw := Z1 hb1 hb4 z1
  have H5 := Lib.hid h5
  have H6 := Lib.hid h6
  have HVI : Hid ((Try.prog.info? 129).map (·.size) = some V.size) := by show _ = _; rw [← HV.out]; exact info8 _ rfl
  have HVS : Hid ((wv z8).toArray.size = V.size) := by show _ = _; rw [← HV.out]; exact size8 _ _ z8_len rfl
  have HVO : Hid (V.all (·.oneCell') = true) := by show _ = _; rw [← HV.out]; exact X6 _
  clear hg5 hg6 z6 s3 hb13 hb2 hb3 h5 h6 z1 hb4 hb1
  go_upto_region 3 with (first
    | (refine wpList_load_row rfl 129 _ rfl g2 rfl 129 V (0, 0) _ H2.out stUnder rfl HVI.out ?_)
    | ((with_reducible refine Yg (o := ⟨some 7, _, _, _, _, _⟩) rfl 129 rfl z8Zero ?_); (refine wpList_store_row rfl 129 (.tmp 7) (.tmp 17) rfl w4.heap.size V rfl rfl 129 (wv z8).toArray (heap_alloc_new _ _) HVI.out HVS.out HVO.out ?_)))
  obtain ⟨w5, hw5⟩ : ∃ w5, w5 = (w4.alloc (.cells (wv z8).toArray 129)).setRow w4.heap.size V := ⟨_, rfl⟩
  have hb5 : Below w4.heap.size w4 w5 := by rw [hw5]; exact ZY ((Below.refl _ _).alloc (Nat.le_refl _) _) (Nat.le_refl _) _
  have h7 : w5.heap[w4.heap.size]? = some (.cells V 129 (0, 0)) := by rw [hw5]; exact ZQ (heap_alloc_new _ _)
  rw [← hw5]
  clear hw5
  obtain ⟨g7, hg7⟩ : ∃ g7, w4.heap.size = g7 := ⟨_, rfl⟩
  rw [hg7] at h7 ⊢
  have b7 : w.heap.size ≤ g7 := by have := hbw.size; omega
  have n27 : g2 ≠ g7 := by omega
  have n47 : g4 ≠ g7 := by omega
  have n57 : g5 ≠ g7 := by omega
  have n67 : g6 ≠ g7 := by omega
  have h2 : w5.heap[g2]? = some (.cells V 129 (0, 0)) := by rw [hb5.block g2 l2]; exact H2.out
  have h4 : w5.heap[g4]? = some (.cells (wv z8).toArray 129 (0, 0)) := by rw [hb5.block g4 l4]; exact H4.out
  have h5 : w5.heap[g5]? = some (.cells (wv L).toArray 81 (0, 0)) := by rw [hb5.block g5 l5]; exact H5.out
  have h6 : w5.heap[g6]? = some (.cells (wv ks).toArray 81 (0, 0)) := by rw [hb5.block g6 l6]; exact H6.out
  have hbz := Z1 hbw hb5 hbw.size
  clear hg7 hbw hb5 H2 H4 H5 H6 l2 l4 l5 l6 HVI HVS HVO
  obtain ⟨t0, ht0⟩ : ∃ t0, t0 = s := ⟨_, rfl⟩
  have h7 : w5.heap[g7]? = some (.cells (wv t0.words).toArray 129 (0, 0)) := by rw [h7, ← HV.out, ht0]
  have HT : Hid (t0 = rounds l s 0) := ht0
  clear ht0
  go_wp2_with fail
  go_loopw [18] (fun i wr => ∃ (k : Nat) (t : ShaSt), k ≤ 64 ∧ i = .int .i64 k ∧ Hid (t = rounds l s k) ∧ Below w.heap.size w wr ∧ wr.heap[g2]? = some (.cells V 129 (0, 0)) ∧ wr.heap[g4]? = some (.cells (wv z8).toArray 129 (0, 0)) ∧
    wr.heap[g5]? = some (.cells (wv L).toArray 81 (0, 0)) ∧ wr.heap[g6]? = some (.cells (wv ks).toArray 81 (0, 0)) ∧ wr.heap[g7]? = some (.cells (wv t.words).toArray 129 (0, 0))) (fun i _ => 64 - (intOf i).toNat)
  case atStart => exact ⟨0, t0, by omega, rfl, HT, hbz, h2, h4, h5, h6, h7⟩
  case round =>
    clear hbz h2 h4 h5 h6 h7 HT
    obtain ⟨k, t, hk, rfl, HT, hb, h2, h4, h5, h6, h7⟩ := hrel
    by_cases hlt : k < 64
    · have hk1 : (k : Int) < 64 := by omega
      have hk0 : (0 : Int) ≤ k := by omega
      have c0 : wr.cell? ⟨g7, 0, none⟩ = some (.int .u32 (t.a.toNat : Int)) := Z4 h7 rfl
      have c1 : wr.cell? ⟨g7, 1, none⟩ = some (.int .u32 (t.b.toNat : Int)) := Z4 h7 rfl
      have c2 : wr.cell? ⟨g7, 2, none⟩ = some (.int .u32 (t.c.toNat : Int)) := Z4 h7 rfl
      have c3 : wr.cell? ⟨g7, 3, none⟩ = some (.int .u32 (t.d.toNat : Int)) := Z4 h7 rfl
      have c4 : wr.cell? ⟨g7, 4, none⟩ = some (.int .u32 (t.e.toNat : Int)) := Z4 h7 rfl
      have c5 : wr.cell? ⟨g7, 5, none⟩ = some (.int .u32 (t.f.toNat : Int)) := Z4 h7 rfl
      have c6 : wr.cell? ⟨g7, 6, none⟩ = some (.int .u32 (t.g.toNat : Int)) := Z4 h7 rfl
      have c7 : wr.cell? ⟨g7, 7, none⟩ = some (.int .u32 (t.h.toNat : Int)) := Z4 h7 rfl
      have cw : wr.cell? ⟨g5, k, none⟩ = some (.int .u32 ((L.getD k 0).toNat : Int)) := YA h5 (by rw [HL.out]; exact hlt)
      have ck : wr.cell? ⟨g6, k, none⟩ = some (.int .u32 ((ks.getD k 0).toNat : Int)) := YA h6 (by rw [XN]; exact hlt)
      obtain ⟨xw, hxw⟩ : ∃ x, L.getD k 0 = x := ⟨_, rfl⟩
      obtain ⟨xk, hxk⟩ : ∃ x, ks.getD k 0 = x := ⟨_, rfl⟩
      rw [hxw] at cw
      rw [hxk] at ck
      have HXW := Lib.hid hxw
      have HXK := Lib.hid hxk
      have H2 := Lib.hid h2
      have H4 := Lib.hid h4
      have H5 := Lib.hid h5
      have H6 := Lib.hid h6
      have H7 := Lib.hid h7
      clear hxw hxk h2 h4 h5 h6 h7
      go_upto_region 6 with fail
      go_quiet (fail)
      obtain ⟨w6, e6⟩ : ∃ w6, w6 = wr.drewN nq := ⟨_, rfl⟩
      have q6 : ∀ p, wr.cell? p = w6.cell? p := by rw [e6]; intro p; rfl
      have E6 : Hid (w6.heap = wr.heap) := by show _ = _; rw [e6]; rfl
      have hb : Below w.heap.size w w6 := by rw [e6]; exact Yb hb nq
      rw [q6] at c0 c1 c2 c3 c4 c5 c6 c7 cw ck
      rw [← e6]
      clear e6 q6
      go_upto_region 7 with fail
      refine wp_region_still_lit (by kernel_rfl) (by kernel_rfl) ?_
      change wpStill _ _ w6.drew _ _ _
      repeat still_step
      still_call (Xn t.e 6 6 rfl (by omega) (by omega) _)
      repeat still_step
      still_call (Xn t.e 11 11 rfl (by omega) (by omega) _)
      repeat still_step
      still_call (Xn t.e 25 25 rfl (by omega) (by omega) _)
      repeat still_step
      refine wpStill_nil ?_
      rw [shaX_code]
      obtain ⟨X, hX⟩ : ∃ X, shaX t xk xw = X := ⟨_, rfl⟩
      rw [hX]
      have HX := Lib.hid hX
      clear hX
      obtain ⟨w7, e7⟩ : ∃ w7, w7 = w6.drew := ⟨_, rfl⟩
      have q7 : ∀ p, w6.cell? p = w7.cell? p := by rw [e7]; intro p; rfl
      have E7 : Hid (w7.heap = wr.heap) := by show _ = _; rw [e7]; exact E6.out
      have hb : Below w.heap.size w w7 := by rw [e7]; exact hb.drew
      rw [q7] at c0 c1 c2 c3 c4 c5 c6 c7
      change Exit.then _ _ _ _ w6.drew
      rw [← e7]
      clear e7 q7 cw ck E6
      go_upto_region 8 with fail
      refine wp_region_still_lit (by kernel_rfl) (by kernel_rfl) ?_
      change wpStill _ _ w7.drew _ _ _
      repeat still_step
      still_call (Xn t.a 2 2 rfl (by omega) (by omega) _)
      repeat still_step
      still_call (Xn t.a 13 13 rfl (by omega) (by omega) _)
      repeat still_step
      still_call (Xn t.a 22 22 rfl (by omega) (by omega) _)
      repeat still_step
      refine wpStill_nil ?_
      rw [shaY_code]
      obtain ⟨Y, hY⟩ : ∃ Y, shaY t = Y := ⟨_, rfl⟩
      rw [hY]
      have HY := Lib.hid hY
      clear hY
      obtain ⟨w8, e8⟩ : ∃ w8, w8 = w7.drew := ⟨_, rfl⟩
      have q8 : ∀ p, w7.cell? p = w8.cell? p := by rw [e8]; intro p; rfl
      have E8 : Hid (w8.heap = wr.heap) := by show _ = _; rw [e8]; exact E7.out
      have hb : Below w.heap.size w w8 := by rw [e8]; exact hb.drew
      rw [q8] at c0 c1 c2 c3 c4 c5 c6 c7
      change Exit.then _ _ _ _ w7.drew
      rw [← e8]
      clear e8 q8 E7
      obtain ⟨Z, hZ⟩ : ∃ Z, X + Y = Z := ⟨_, rfl⟩
      obtain ⟨D, hD⟩ : ∃ D, t.d + X = D := ⟨_, rfl⟩
      have a1 := Xt X Y
      have a2 := Xr X Y
      have a3 := Xt t.d X
      have a4 := Xr t.d X
      rw [hZ] at a1 a2
      rw [hD] at a3 a4
      have HZ := Lib.hid hZ
      have HD := Lib.hid hD
      clear hZ hD
      have H7 : Hid (w8.heap[g7]? = some (.cells (wv t.words).toArray 129 (0, 0))) := by show _ = _; rw [E8.out]; exact H7.out
      have I8 : Hid ((Try.prog.info? 129).map (·.size) = some (wv (ShaSt.words ⟨Z, t.a, t.b, t.c, D, t.e, t.f, t.g⟩)).toArray.size) := info8 _ rfl
      have S8 : Hid ((wv t.words).toArray.size = (wv (ShaSt.words ⟨Z, t.a, t.b, t.c, D, t.e, t.f, t.g⟩)).toArray.size) := size8 _ _ rfl rfl
      go_upto_region 10 with (first
        | ((with_reducible refine WF (o := ⟨some 98, _, _, _, _, _⟩) rfl 129 _ rfl (wv (ShaSt.words ⟨Z, t.a, t.b, t.c, D, t.e, t.f, t.g⟩)).toArray (by kernel_rfl) ?_))
        | (with_reducible refine wpList_store_row (o := ⟨none, .store 129 (.tmp 7) (.tmp 98), _, _, _, _⟩) rfl 129 (.tmp 7) (.tmp 98) rfl g7 ?cells ?hx ?hy ?t ?old ?hg ?i8 ?s8 ?wv ?h))
      case hy => rfl
      case hg => exact H7.out
      case i8 => exact I8.out
      case s8 => exact S8.out
      case wv => exact X6 _
      clear c0 c1 c2 c3 c4 c5 c6 c7 a1 a2 a3 a4
      go_wp2_with fail
      go_roundw
      case rel =>
        refine ⟨k + 1, ⟨Z, t.a, t.b, t.c, D, t.e, t.f, t.g⟩, by omega, by go_num, ?_, ZY hb b7 _, ?_, ?_, ?_, ?_, ZQ H7.out⟩
        · show _ = shaRound (rounds l s k) (ks.getD k 0) ((wl l 64).getD k 0)
          rw [← HT.out, HXK.out, HLE.out, HXW.out]
          unfold shaRound
          rw [HX.out, HY.out, HZ.out, HD.out]
        · rw [setRow_other _ _ _ _ n27, E8.out]; exact H2.out
        · rw [setRow_other _ _ _ _ n47, E8.out]; exact H4.out
        · rw [setRow_other _ _ _ _ n57, E8.out]; exact H5.out
        · rw [setRow_other _ _ _ _ n67, E8.out]; exact H6.out
      case measure => simp [intOf]; omega
    · rw [show (k : Int) = 64 by omega]
      obtain rfl : k = 64 := by omega
      rw [← HV.out] at h2
      have hT : Hid (addW t.words s.words 0 = t.words) := rfl
      have h7 : wr.heap[g7]? = some (.cells (wv (addW t.words s.words 0)).toArray 129 (0, 0)) := by rw [hT.out]; exact h7
      go_wp2_with fail
      go_loopw [100] (fun i wr => ∃ (j : Nat), j ≤ 8 ∧ i = .int .i64 j ∧ Below w.heap.size w wr ∧ wr.heap[g2]? = some (.cells (wv s.words).toArray 129 (0, 0)) ∧ wr.heap[g4]? = some (.cells (wv z8).toArray 129 (0, 0)) ∧
        wr.heap[g7]? = some (.cells (wv (addW t.words s.words j)).toArray 129 (0, 0))) (fun i _ => 8 - (intOf i).toNat)
      case atStart => exact ⟨0, by omega, rfl, hb, h2, h4, h7⟩
      case round =>
        clear hb h2 h4 h5 h6 h7
        obtain ⟨j, hj, rfl, hb, h2, h4, h7⟩ := hrel
        by_cases hlt : j < 8
        · have hj1 : (j : Int) < 8 := by omega
          have hj0 : (0 : Int) ≤ j := by omega
          have ct := YA h7 (i := j) (by rw [length_addW t.words s.words rfl j hj]; exact hlt)
          have cs := YA h2 (i := j) hlt
          have hst := addW_set t.words s.words rfl j hlt
          rw [addW_get t.words s.words rfl j hlt] at ct
          obtain ⟨xt, hxt⟩ : ∃ x, t.words.getD j 0 = x := ⟨_, rfl⟩
          obtain ⟨xs, hxs⟩ : ∃ x, s.words.getD j 0 = x := ⟨_, rfl⟩
          rw [hxt] at ct hst
          rw [hxs] at cs hst
          have HST := Lib.hid hst
          have H2 := Lib.hid h2
          have H4 := Lib.hid h4
          have H7 := Lib.hid h7
          clear hst hxt hxs h2 h4 h7
          go_upto_region 14 with fail
          go_still_tail 8, (by kernel_rfl)
          change wpList _ _ _ _ _ wr.drew
          have hb := hb.drew
          have H2 : Hid (wr.drew.heap[g2]? = some (.cells (wv s.words).toArray 129 (0, 0))) := H2
          have H4 : Hid (wr.drew.heap[g4]? = some (.cells (wv z8).toArray 129 (0, 0))) := H4
          have H7 : Hid (wr.drew.heap[g7]? = some (.cells (wv (addW t.words s.words j)).toArray 129 (0, 0))) := H7
          have ct : wr.drew.cell? ⟨g7, j, none⟩ = some (.int .u32 (xt.toNat : Int)) := ct
          have f1 : wr.drew.frozen? ⟨g7, j, none⟩ = false := Z6 H7.out
          generalize wr.drew = w3 at *
          have a1 := Lib.hid (Xr xt xs)
          clear cs
          go_wp2_with fail
          go_roundw
          case rel =>
            refine ⟨j + 1, by omega, by go_num, hb.setCell b7 _, ?_, ?_, ?_⟩
            · rw [Below.heap_setCell _ _ _ _ n27]; exact H2.out
            · rw [Below.heap_setCell _ _ _ _ n47]; exact H4.out
            · rw [a1.out, XT H7.out, HST.out]
          case measure => simp [intOf]; omega
        · obtain rfl : j = 8 := by omega
          rw [addW_all] at h7
          have hF : (addSt s t).words = (comp s l).words := by unfold comp; rw [← HT.out]
          rw [hF] at h7
          obtain ⟨F, hFe⟩ : ∃ F, (comp s l).words = F := ⟨_, rfl⟩
          have hFl : F.length = 8 := by rw [← hFe]; rfl
          rw [hFe] at h7
          have HFE := Lib.hid hFe
          have I8 := Lib.hid (info8 F hFl)
          have S8 := Lib.hid (size8 z8 F z8_len hFl)
          have H4 := Lib.hid h4
          have H7 := Lib.hid h7
          clear hF hFe hFl h4 h7 h2
          go_wp2_with (first
            | (refine wpList_load_row rfl 129 _ rfl g7 rfl 129 (wv F).toArray (0, 0) _ H7.out stUnder rfl I8.out ?_)
            | (refine wpList_store_row rfl 129 _ _ rfl g4 (wv F).toArray rfl rfl 129 (wv z8).toArray H4.out I8.out S8.out (X6 _) ?_))
          exact bodyPost_ret (v := .agg (wv F).toArray) (results_cell_row (p := 4) (ty := 129) rfl _ _ g4 129 (wv F).toArray (0, 0) _ rfl (ZQ H4.out) stUnder rfl I8.out) rfl ⟨by rw [HFE.out], ZY hb b4 _⟩
end Go.Proofs.Ytkncomkncfcecaa
