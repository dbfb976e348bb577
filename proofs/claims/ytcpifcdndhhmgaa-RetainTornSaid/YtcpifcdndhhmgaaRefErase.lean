/- The document's flash memory: Erase, Program. -/
import Derived.Test.YtcpifcdndhhmgaaRefFlash2
import Derived.Test.YtcpifcdndhhmgaaRefChange
import Derived.Test.YtcpifcdndhhmgaaFlashProg
set_option linter.unusedVariables false
set_option linter.unusedSimpArgs false
namespace Go.Proofs.Ytcpifcdndhhmgaa
open Go.RowKit

theorem set_blank (N j : Nat) (hj : j < N) : (List.replicate j (255 : UInt8) ++ List.replicate (N - j) 0).set j 255 = List.replicate (j + 1) 255 ++ List.replicate (N - (j + 1)) 0 := by
  rw [List.set_append_right _ _ (by rw [List.length_replicate]; exact Nat.le_refl _), List.length_replicate, Nat.sub_self, show N - j = (N - (j + 1)) + 1 by omega, List.replicate_succ (a := (0 : UInt8)), List.set_cons_zero, List.replicate_succ', List.append_assoc]
  rfl
set_option maxRecDepth 100000 in
set_option maxHeartbeats 2000000 in
theorem refErase_any (Q : Nat → Prop) (g : Nat) (hQ : ∀ b, Q b → b ≠ g) (f : FlashSt) (s : Int) (w : World) (h : RF Q w g f) :
    Calls Try.prog 48 #[.pointer (some ⟨g, 0, none⟩), .int .i64 s] w fun r w' => r = .returned (.int .i64 (eraseF f s).1) ∧ RF Q w' g (eraseF f s).2 ∧ w.grownBy w' (some g) := by
  have h0 := h
  have hglt := h.lt
  obtain ⟨A, n, c, hg, hS, hl0, hl1, hB, hn, hc, ha⟩ := h
  have c3 := rf_dead hg hS
  clear hg
  cases hd : f.dead
  · rw [hd] at c3
    by_cases hs : s < 0 ∨ 6 ≤ s
    · rw [show eraseF f s = (12, f) by unfold eraseF; rw [hd, if_neg (by simp), if_pos hs]]
      by_cases hs0 : s < 0
      · go_enter Try.func48, Try.ntmps48
        go_wp2_with fail
        go_ret
        exact ⟨rfl, h0, grown_refl _ _⟩
      · have hs6 : (6 : Int) ≤ s := by omega
        go_enter Try.func48, Try.ntmps48
        go_wp2_with fail
        go_ret
        exact ⟨rfl, h0, grown_refl _ _⟩
    · obtain ⟨k, rfl⟩ : ∃ k : Nat, s = k := ⟨s.toNat, by omega⟩
      have hk : k < 6 := by omega
      have hk1 : (k : Int) < 6 := by omega
      have hk0 : (0 : Int) ≤ k := by omega
      rw [show eraseF f (k : Int) = (if (spendF f).dead = true then 14 else 0, { spendF f with S := layS (!(spendF f).dead) f.mask (List.replicate 1024 255) (k * 1024) 1024 f.S }) by unfold eraseF; rw [hd, if_neg (by simp), if_neg hs]; rfl]
      have hlay := fun gt W h1 h2 h3 => change_any Q g hQ f k 0 1024 (some ⟨gt, 0, none⟩) 1024 (List.replicate 1024 255) W h1 hk (by omega) h2 h3 (by omega) (by omega)
      rw [Nat.add_zero] at hlay
      generalize (if (spendF f).dead = true then (14 : Int) else 0) = E at hlay ⊢
      generalize ({ spendF f with S := layS (!(spendF f).dead) f.mask (List.replicate 1024 255) (k * 1024) 1024 f.S } : FlashSt) = F2 at hlay ⊢
      have hbkl : (List.replicate 1024 (255 : UInt8)).length = 1024 := List.length_replicate
      obtain ⟨bk, hbk⟩ : ∃ bk, List.replicate 1024 (255 : UInt8) = bk := ⟨_, rfl⟩
      rw [hbk] at hlay hbkl
      have HBK := Lib.hid hbk
      clear hbk
      have HLAY := Lib.hid hlay
      clear hlay
      have hmk := makeBytes 1024 (by omega) w
      have hst : Hid (bv (List.replicate 1024 (0 : UInt8)) = bv (List.replicate 0 255 ++ List.replicate (1024 - 0) 0)) := by show bv (List.replicate 1024 (0 : UInt8)) = bv (List.replicate 0 255 ++ List.replicate (1024 - 0) 0); rw [List.replicate_zero, List.nil_append]
      generalize bv (List.replicate 1024 (0 : UInt8)) = Z at hmk hst
      have hmk : (Instr.makeSlice 27 (.int .i64 1024) (.int .i64 1024)).run Try.prog w = .ok (.slice (some ⟨w.heap.size, 0, none⟩) 1024 1024) (w.alloc (.cells Z.toArray 5)) := hmk
      go_enter Try.func48, Try.ntmps48
      go_wp2_with fail
      go_loopw [6] (fun iv wr => ∃ (j : Nat), j ≤ 1024 ∧ iv = .int .i64 j ∧ wr.heap[w.heap.size]? = some (.cells (bv (List.replicate j 255 ++ List.replicate (1024 - j) 0)).toArray 5 (0, 0)) ∧ Below w.heap.size w wr) (fun iv _ => 1024 - (intOf iv).toNat)
      case atStart => exact ⟨0, by omega, rfl, by rw [← hst.out]; exact heap_alloc_new w _, (Below.refl _ w).alloc (Nat.le_refl _) _⟩
      case round =>
        clear hmk
        obtain ⟨j, hj, rfl, hgx, hbr⟩ := hrel
        by_cases hlt : j < 1024
        · have hj1 : (j : Int) < 1024 := by omega
          have hj0 : (0 : Int) ≤ j := by omega
          have hl : (List.replicate j (255 : UInt8) ++ List.replicate (1024 - j) 0)[j]? = some 0 := by
            rw [List.getElem?_append_right (by rw [List.length_replicate]; exact Nat.le_refl _), List.length_replicate, Nat.sub_self, List.getElem?_replicate, if_pos (by omega)]
          have cc0 : wr.cell? ⟨w.heap.size, j, none⟩ = some (.int .u8 ((0 : UInt8).toNat : Int)) := cell_of_block hgx (bv_at hl)
          have f0 : wr.frozen? ⟨w.heap.size, j, none⟩ = false := free_of_block hgx
          have hg2 := block_setCell (i := j) (.int .u8 ((255 : UInt8).toNat : Int)) hgx
          rw [bv_set, set_blank 1024 j hlt] at hg2
          have HG2 := Lib.hid hg2
          clear hg2 hl hgx
          go_wp2_with fail
          go_roundw
          case rel => exact ⟨j + 1, by omega, by go_num, HG2.out, hbr.setCell (p := ⟨w.heap.size, j, none⟩) (Nat.le_refl _) _⟩
          case measure => simp [intOf]; omega
        · obtain rfl : j = 1024 := by omega
          rw [Nat.sub_self, List.replicate_zero, List.append_nil, HBK.out] at hgx
          have hBt : Bs wr (some ⟨w.heap.size, 0, none⟩) 1024 bk := fresh_bs hgx hbkl
          have hl2 := HLAY.out w.heap.size wr (h0.below hbr) hBt (fun _ a e => by injection e with e; subst e; exact Nat.ne_of_gt hglt)
          clear hgx hBt
          go_wp2_with (go_at_call 72; refine Calls.mono hl2 ?_; rintro r w3 ⟨rfl, hf3, hg3⟩)
          go_ret
          exact ⟨rfl, hf3, grown_trans (grown_below hbr _) hg3⟩
  · rw [hd] at c3
    rw [show eraseF f s = (14, f) by unfold eraseF; rw [hd, if_pos rfl]]
    go_enter Try.func48, Try.ntmps48
    go_wp2_with fail
    go_ret
    exact ⟨rfl, h0, grown_refl _ _⟩
end Go.Proofs.Ytcpifcdndhhmgaa
