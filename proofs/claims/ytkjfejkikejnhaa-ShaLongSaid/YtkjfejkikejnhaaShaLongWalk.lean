/- ShaLong: the walk. -/
import Derived.Test.YtkjfejkikejnhaaShaKnown
import Derived.Test.YtkjfejkikejnhaaShaRef
import Derived.Test.YtkjfejkikejnhaaWithin3
import Derived.Deep.DeepCutAuto
namespace Go.Proofs.Ytkjfejkikejnhaa
open Go.RowKit

theorem eqSame (w : World) (l : List UInt8) : (Op.equalIn 10000 24 (.agg (bv (sha l)).toArray) (.agg (bv (sha l)).toArray)).run Try.prog w = .ok true w := by
  rw [eqH w _ _ (length_sha l) (length_sha l), beq_self_eq_true]
theorem fresh_bs' {W : World} {b n : Nat} {l : List UInt8} {t : TypeId} {fr : Nat × Nat} (h : W.heap[b]? = some (.cells (bv l).toArray t fr)) (hl : l.length = n) : Bs W (some ⟨b, 0, none⟩) n l := by
  have := Vs.lit h (n := n) (by simp [bv, hl])
  simpa [Bs] using this
theorem byte_any (z : Int) : ∃ x : UInt8, z % 256 = (x.toNat : Int) := ⟨UInt8.ofNat (z % 256).toNat, by rw [UInt8.toNat_ofNat']; omega⟩

set_option maxRecDepth 100000 in
set_option maxHeartbeats 4000000 in
theorem shaLong_top (x y : Int) (u : UInt8) (z t : Int) (v : UInt8) (w : World) (hx : -9223372036854775808 ≤ x ∧ x ≤ 9223372036854775807) (hy : y = (u.toNat : Int)) (hz : -9223372036854775808 ≤ z ∧ z ≤ 9223372036854775807) (ht : t = (v.toNat : Int)) :
    Calls Try.prog 4 #[.int .i64 x, .int .u8 y, .int .i64 z, .int .u8 t] w fun e w' => e = .returned (.bool true) ∧ Below w.heap.size w w' := by
  subst hy
  subst ht
  have hW := Lib.hid (within_lt x 300 (by omega))
  obtain ⟨n, hn⟩ : ∃ n, within x 300 = n := ⟨_, rfl⟩
  rw [hn] at hW
  have HN := Lib.hid hn
  have hn3 : n < 300 := hW.out
  clear hn hW
  have hmk := makeBytes n (by omega)
  go_enter Try.func4, Try.ntmps4
  go_upto_region 5 with (first
    | (go_at_call 8; refine Calls.mono (known_any _) ?_; rintro e w1 ⟨rfl, hb1⟩)
    | (go_at_call 9; refine Calls.mono (within_any x 300 _ _ rfl (by omega) (by omega)) ?_; rw [HN.out]; rintro e _ ⟨rfl, rfl⟩))
  obtain ⟨w2, hw2⟩ : ∃ w2, w2 = w1.alloc (.cells (bv (List.replicate n 0)).toArray 5) := ⟨_, rfl⟩
  have hb2 : Below w1.heap.size w1 w2 := by rw [hw2]; exact (Below.refl _ _).alloc (Nat.le_refl _) _
  have hg : w2.heap[w1.heap.size]? = some (.cells (bv (List.replicate n 0)).toArray 5 (0, 0)) := by rw [hw2]; exact heap_alloc_new _ _
  rw [← hw2]
  clear hw2 hmk
  have hb := below_two hb1 hb2
  obtain ⟨g, hgg⟩ : ∃ g, w1.heap.size = g := ⟨_, rfl⟩
  have bg : w.heap.size ≤ g := by have := hb1.size; omega
  rw [hgg] at hg ⊢
  clear hgg hb1 hb2
  go_wp2_with fail
  go_loopw [10] (fun i wr => ∃ (k : Nat) (L : List UInt8), k ≤ n ∧ i = .int .i64 k ∧ Hid (L.length = n) ∧ wr.heap[g]? = some (.cells (bv L).toArray 5 (0, 0)) ∧ Below w.heap.size w wr) (fun i _ => n - (intOf i).toNat)
  case atStart => exact ⟨0, List.replicate n 0, by omega, rfl, List.length_replicate, hg, hb⟩
  case round =>
    clear hg hb
    obtain ⟨k, L, hk, rfl, HL, hg, hb⟩ := hrel
    by_cases hlt : k < n
    · have hk1 : (k : Int) < n := by omega
      have hk0 : (0 : Int) ≤ k := by omega
      obtain ⟨b0, hb0⟩ := byte_any ((u.toNat : Int) + k)
      have f1 : w.heap.size ≤ g := bg
      have hfz : wr.frozen? ⟨g, k, none⟩ = false := free_of_block hg
      have hcell : ∃ q, wr.cell? ⟨g, k, none⟩ = some q := ⟨_, cell_of_block hg (by rw [List.getElem?_toArray, bv_get _ k (by rw [HL.out]; exact hlt)])⟩
      obtain ⟨q, hcell⟩ := hcell
      have H := Lib.hid hg
      clear hg
      go_wp2_with fail
      go_roundw
      case rel =>
        refine ⟨k + 1, L.set k b0, by omega, by go_num, ?_, bv_setCell H.out k b0, hb.setCell bg _⟩
        show _ = _
        rw [List.length_set]
        exact HL.out
      case measure => simp [intOf]; omega
    · obtain rfl : k = n := by omega
      have hB : Bs wr (some ⟨g, 0, none⟩) k L := fresh_bs' hg HL.out
      have hgl : g < wr.heap.size := (Array.getElem?_eq_some_iff.1 hg).1
      have H := Lib.hid hg
      clear hg
      go_wp2_with fail
      refine Calls.mono (shaSum_any _ 1 1 [L] _ (Ps.lit1 26 (by first | rfl | omega) hB (by omega) (by omega)) (by omega) (by rw [show ([L] : List (List UInt8)).flatten = L by simp, HL.out]; omega)) ?_
      rintro e w3 ⟨rfl, hb3⟩
      rw [show ([L] : List (List UInt8)).flatten = L by simp]
      have hb03 := below_two ((Below.refl _ wr).alloc (Nat.le_refl _) _) hb3
      go_wp2_with fail
      refine Calls.mono (refSha_any _ k k L _ (hB.keep (.of_below hb03)) (by omega)) ?_
      rintro e w4 ⟨rfl, hb4⟩
      have hb04 := below_two hb03 hb4
      have H : Hid (w4.heap[g]? = some (.cells (bv L).toArray 5 (0, 0))) := by show _ = _; rw [hb04.block g hgl]; exact H.out
      have hb := below_then hb hb04 hb.size
      clear hb3 hb4 hb03 hb04 hB
      have he := fun W => eqSame W L
      go_wp2_with fail
      · have hk0 : 0 < k := by assumption
        refine Calls.mono (within_any z k _ _ rfl hk0 (by omega)) ?_
        rintro e _ ⟨rfl, rfl⟩
        have hj := within_lt z k hk0
        obtain ⟨j, hjE⟩ : ∃ j, within z k = j := ⟨_, rfl⟩
        rw [hjE] at hj ⊢
        clear hjE he
        have hj1 : (j : Int) < k := by omega
        have hj0 : (0 : Int) ≤ j := by omega
        obtain ⟨x0, hx0⟩ : ∃ x0, L.getD j 0 = x0 := ⟨_, rfl⟩
        have hcell : w4.cell? ⟨g, j, none⟩ = some (.int .u8 (x0.toNat : Int)) := cell_of_block H.out (by rw [List.getElem?_toArray, bv_get _ j (by rw [HL.out]; exact hj), ← hx0, List.getD_eq_getElem?_getD, List.getElem?_eq_getElem (by rw [HL.out]; exact hj)]; rfl)
        have hfz : w4.frozen? ⟨g, j, none⟩ = false := free_of_block H.out
        obtain ⟨x1, hx1⟩ := byte_any ((x0.toNat : Int) + v.toNat)
        clear hx0
        go_wp2_with fail
        have H5 := Lib.hid (bv_setCell H.out j x1)
        have hb5 : Below w.heap.size w (w4.setCell ⟨g, j, none⟩ (.int .u8 (x1.toNat : Int))) := hb.setCell bg _
        have hl5 : (L.set j x1).length = k := by rw [List.length_set]; exact HL.out
        have hs5 : (w4.setCell ⟨g, j, none⟩ (.int .u8 (x1.toNat : Int))).heap.size = w4.heap.size := by simp
        generalize w4.setCell ⟨g, j, none⟩ (.int .u8 (x1.toNat : Int)) = w5 at *
        rw [← hs5]
        clear hs5
        have hB : Bs w5 (some ⟨g, 0, none⟩) k (L.set j x1) := fresh_bs' H5.out hl5
        refine Calls.mono (shaSum_any _ 1 1 [(L.set j x1)] _ (Ps.lit1 26 (by first | rfl | omega) hB (by omega) (by omega)) (by omega) (by rw [show ([(L.set j x1)] : List (List UInt8)).flatten = (L.set j x1) by simp, hl5]; omega)) ?_
        rintro e w6 ⟨rfl, hb6⟩
        rw [show ([(L.set j x1)] : List (List UInt8)).flatten = (L.set j x1) by simp]
        have hb06 := below_two ((Below.refl _ w5).alloc (Nat.le_refl _) _) hb6
        go_wp2_with fail
        refine Calls.mono (refSha_any _ k k (L.set j x1) _ (hB.keep (.of_below hb06)) (by omega)) ?_
        rintro e w7 ⟨rfl, hb7⟩
        have hb := below_then hb5 (below_two hb06 hb7) hb5.size
        have he := fun W => eqSame W (L.set j x1)
        go_wp2_with fail
        go_ret
        exact ⟨rfl, hb⟩
      · clear he
        have hB : Bs w4 (some ⟨g, 0, none⟩) k L := fresh_bs' H.out HL.out
        refine Calls.mono (shaSum_any _ 1 1 [L] _ (Ps.lit1 26 (by first | rfl | omega) hB (by omega) (by omega)) (by omega) (by rw [show ([L] : List (List UInt8)).flatten = L by simp, HL.out]; omega)) ?_
        rintro e w6 ⟨rfl, hb6⟩
        rw [show ([L] : List (List UInt8)).flatten = L by simp]
        have hb06 := below_two ((Below.refl _ w4).alloc (Nat.le_refl _) _) hb6
        go_wp2_with fail
        refine Calls.mono (refSha_any _ k k L _ (hB.keep (.of_below hb06)) (by omega)) ?_
        rintro e w7 ⟨rfl, hb7⟩
        have hb := below_then hb (below_two hb06 hb7) hb.size
        have he := fun W => eqSame W L
        go_wp2_with fail
        go_ret
        exact ⟨rfl, hb⟩
end Go.Proofs.Ytkjfejkikejnhaa
