/- FlashAddr: the walk. -/
import Derived.Test.YtdomdnmjabadiaaFlashKnown
namespace Go.Proofs.Ytdomdnmjabadiaa
open Go.RowKit

set_option maxRecDepth 100000 in
set_option maxHeartbeats 4000000 in
theorem addr_core (s p : Int) (x : Int) (w : World) (E G : Int) (f1 f2 : FlashSt) (D : Int)
    (P1 : progF newF s p (List.replicate (within x 20) 0) = (E, f1)) (E1 : eraseF f1 s = (G, f2)) (O1 : f2.done = D)
    (hcase : (E = 12 ∧ G = 12 ∧ D = 0 ∧ s < 0) ∨ (E = 12 ∧ G = 12 ∧ D = 0 ∧ ¬ s < 0 ∧ 5 < s) ∨ (E = 12 ∧ G = 0 ∧ D = 1 ∧ ¬ s < 0 ∧ s ≤ 5 ∧ p < 0) ∨ (E = 12 ∧ G = 0 ∧ D = 1 ∧ ¬ s < 0 ∧ s ≤ 5 ∧ ¬ p < 0 ∧ 63 < p) ∨
      (E = 5 ∧ G = 0 ∧ D = 1 ∧ ¬ s < 0 ∧ s ≤ 5 ∧ ¬ p < 0 ∧ p ≤ 63 ∧ 16 < within x 20) ∨ (E = 0 ∧ G = 0 ∧ D = 2 ∧ ¬ s < 0 ∧ s ≤ 5 ∧ ¬ p < 0 ∧ p ≤ 63 ∧ within x 20 ≤ 16)) :
    Calls Try.prog 5 #[.int .i64 s, .int .i64 p, .int .i64 x] w fun e w' => e = .returned (.bool true) ∧ Below w.heap.size w w' := by
  have hN := within_lt x 20 (by omega)
  have HW : Hid (within x 20 = within x 20) := rfl
  have hmk := fun W => makeBytes (within x 20) (by omega) W
  have hzl : (List.replicate (within x 20) (0 : UInt8)).length = within x 20 := List.length_replicate
  generalize List.replicate (within x 20) (0 : UInt8) = Z at P1 hmk hzl
  have HP := Lib.hid P1
  have HE := Lib.hid E1
  have HZ := Lib.hid hzl
  clear P1 E1 hzl HW
  rcases hcase with h | h | h | h | h | h
  · obtain ⟨rfl, rfl, rfl, hs⟩ := h
    go_enter Try.func5, Try.ntmps5
    go_upto_region 5 with (first
      | (go_at_call 10; refine Calls.mono (known_any _) ?_; rintro r w1 ⟨rfl, hb1⟩)
      | (go_at_call 12; refine Calls.mono (new_any _) ?_; rintro r w2 ⟨rfl, hf2, hb2⟩)
      | (go_at_call 11; with_reducible refine Calls.mono (within_any x 20 _ _ rfl (by omega) (by omega)) ?_; rintro r _ ⟨rfl, rfl⟩))
    have hb2w := below_two hb1 hb2
    have hgw : w.heap.size ≤ w1.heap.size := hb1.size
    generalize w1.heap.size = g at hf2 hgw ⊢
    generalize within x 20 = N at *
    have hBZ : Bs (w2.alloc (.cells (bv Z).toArray 5)) (some ⟨w2.heap.size, 0, none⟩) N Z := Bs.lit _ rfl Z HZ.out.symm rfl
    have hmk2 := hmk w2
    clear hmk
    go_upto_region 6 with (go_at_call 13; refine Calls.mono (program_any _ g (fun _ h => h.elim) newF s p _ N N Z _ (hf2.below ((Below.refl _ _).alloc (Nat.le_refl _) _)) hBZ (by omega) (by omega)) ?_; rw [HP.out]; rintro r w3 ⟨rfl, hf3, hg3⟩)
    have hf3 : FS (fun _ => False) w3 g f1 := hf3
    have hb3 := below_grown (hb2w.alloc hb2w.size _) hg3 (Nat.le_trans hb2w.size (by simp)) hgw
    obtain ⟨A0, n0, c0, hh, _⟩ := id hf3
    have cl := fl_left hh
    clear hh
    go_wp2_with (first
      | (go_at_call 16; refine Calls.mono (erase_any _ g (fun _ h => h.elim) f1 s _ hf3) ?_; rw [HE.out]; rintro r w4 ⟨rfl, hf4, hg4⟩; have hf4 : FS (fun _ => False) w4 g f2 := hf4)
      | (go_at_call 15; refine Calls.mono (ops_any _ g f2 _ hf4) ?_; rw [O1]; rintro r _ ⟨rfl, rfl⟩))
    go_ret
    exact ⟨rfl, below_grown hb3 hg4 hb3.size hgw⟩
  · obtain ⟨rfl, rfl, rfl, hs, hs5⟩ := h
    have hs6 : ¬ s ≤ 5 := by omega
    go_enter Try.func5, Try.ntmps5
    go_upto_region 5 with (first
      | (go_at_call 10; refine Calls.mono (known_any _) ?_; rintro r w1 ⟨rfl, hb1⟩)
      | (go_at_call 12; refine Calls.mono (new_any _) ?_; rintro r w2 ⟨rfl, hf2, hb2⟩)
      | (go_at_call 11; with_reducible refine Calls.mono (within_any x 20 _ _ rfl (by omega) (by omega)) ?_; rintro r _ ⟨rfl, rfl⟩))
    have hb2w := below_two hb1 hb2
    have hgw : w.heap.size ≤ w1.heap.size := hb1.size
    generalize w1.heap.size = g at hf2 hgw ⊢
    generalize within x 20 = N at *
    have hBZ : Bs (w2.alloc (.cells (bv Z).toArray 5)) (some ⟨w2.heap.size, 0, none⟩) N Z := Bs.lit _ rfl Z HZ.out.symm rfl
    have hmk2 := hmk w2
    clear hmk
    go_upto_region 6 with (go_at_call 13; refine Calls.mono (program_any _ g (fun _ h => h.elim) newF s p _ N N Z _ (hf2.below ((Below.refl _ _).alloc (Nat.le_refl _) _)) hBZ (by omega) (by omega)) ?_; rw [HP.out]; rintro r w3 ⟨rfl, hf3, hg3⟩)
    have hf3 : FS (fun _ => False) w3 g f1 := hf3
    have hb3 := below_grown (hb2w.alloc hb2w.size _) hg3 (Nat.le_trans hb2w.size (by simp)) hgw
    obtain ⟨A0, n0, c0, hh, _⟩ := id hf3
    have cl := fl_left hh
    clear hh
    go_wp2_with (first
      | (go_at_call 16; refine Calls.mono (erase_any _ g (fun _ h => h.elim) f1 s _ hf3) ?_; rw [HE.out]; rintro r w4 ⟨rfl, hf4, hg4⟩; have hf4 : FS (fun _ => False) w4 g f2 := hf4)
      | (go_at_call 15; refine Calls.mono (ops_any _ g f2 _ hf4) ?_; rw [O1]; rintro r _ ⟨rfl, rfl⟩))
    go_ret
    exact ⟨by show Ending.returned (.bool (!decide (s ≤ 5))) = _; rw [decide_eq_false (show ¬ s ≤ 5 by omega)]; rfl, below_grown hb3 hg4 hb3.size hgw⟩
  · obtain ⟨rfl, rfl, rfl, hs, hs5, hp⟩ := h
    have hs6 : ¬ 5 < s := by omega
    go_enter Try.func5, Try.ntmps5
    go_upto_region 5 with (first
      | (go_at_call 10; refine Calls.mono (known_any _) ?_; rintro r w1 ⟨rfl, hb1⟩)
      | (go_at_call 12; refine Calls.mono (new_any _) ?_; rintro r w2 ⟨rfl, hf2, hb2⟩)
      | (go_at_call 11; with_reducible refine Calls.mono (within_any x 20 _ _ rfl (by omega) (by omega)) ?_; rintro r _ ⟨rfl, rfl⟩))
    have hb2w := below_two hb1 hb2
    have hgw : w.heap.size ≤ w1.heap.size := hb1.size
    generalize w1.heap.size = g at hf2 hgw ⊢
    generalize within x 20 = N at *
    have hBZ : Bs (w2.alloc (.cells (bv Z).toArray 5)) (some ⟨w2.heap.size, 0, none⟩) N Z := Bs.lit _ rfl Z HZ.out.symm rfl
    have hmk2 := hmk w2
    clear hmk
    go_upto_region 6 with (go_at_call 13; refine Calls.mono (program_any _ g (fun _ h => h.elim) newF s p _ N N Z _ (hf2.below ((Below.refl _ _).alloc (Nat.le_refl _) _)) hBZ (by omega) (by omega)) ?_; rw [HP.out]; rintro r w3 ⟨rfl, hf3, hg3⟩)
    have hf3 : FS (fun _ => False) w3 g f1 := hf3
    have hb3 := below_grown (hb2w.alloc hb2w.size _) hg3 (Nat.le_trans hb2w.size (by simp)) hgw
    obtain ⟨A0, n0, c0, hh, _⟩ := id hf3
    have cl := fl_left hh
    clear hh
    go_wp2_with (first
      | (go_at_call 16; refine Calls.mono (erase_any _ g (fun _ h => h.elim) f1 s _ hf3) ?_; rw [HE.out]; rintro r w4 ⟨rfl, hf4, hg4⟩; have hf4 : FS (fun _ => False) w4 g f2 := hf4)
      | (go_at_call 15; refine Calls.mono (ops_any _ g f2 _ hf4) ?_; rw [O1]; rintro r _ ⟨rfl, rfl⟩))
    go_ret
    exact ⟨rfl, below_grown hb3 hg4 hb3.size hgw⟩
  · obtain ⟨rfl, rfl, rfl, hs, hs5, hp, hp63⟩ := h
    have hs6 : ¬ 5 < s := by omega
    go_enter Try.func5, Try.ntmps5
    go_upto_region 5 with (first
      | (go_at_call 10; refine Calls.mono (known_any _) ?_; rintro r w1 ⟨rfl, hb1⟩)
      | (go_at_call 12; refine Calls.mono (new_any _) ?_; rintro r w2 ⟨rfl, hf2, hb2⟩)
      | (go_at_call 11; with_reducible refine Calls.mono (within_any x 20 _ _ rfl (by omega) (by omega)) ?_; rintro r _ ⟨rfl, rfl⟩))
    have hb2w := below_two hb1 hb2
    have hgw : w.heap.size ≤ w1.heap.size := hb1.size
    generalize w1.heap.size = g at hf2 hgw ⊢
    generalize within x 20 = N at *
    have hBZ : Bs (w2.alloc (.cells (bv Z).toArray 5)) (some ⟨w2.heap.size, 0, none⟩) N Z := Bs.lit _ rfl Z HZ.out.symm rfl
    have hmk2 := hmk w2
    clear hmk
    go_upto_region 6 with (go_at_call 13; refine Calls.mono (program_any _ g (fun _ h => h.elim) newF s p _ N N Z _ (hf2.below ((Below.refl _ _).alloc (Nat.le_refl _) _)) hBZ (by omega) (by omega)) ?_; rw [HP.out]; rintro r w3 ⟨rfl, hf3, hg3⟩)
    have hf3 : FS (fun _ => False) w3 g f1 := hf3
    have hb3 := below_grown (hb2w.alloc hb2w.size _) hg3 (Nat.le_trans hb2w.size (by simp)) hgw
    obtain ⟨A0, n0, c0, hh, _⟩ := id hf3
    have cl := fl_left hh
    clear hh
    go_wp2_with (first
      | (go_at_call 16; refine Calls.mono (erase_any _ g (fun _ h => h.elim) f1 s _ hf3) ?_; rw [HE.out]; rintro r w4 ⟨rfl, hf4, hg4⟩; have hf4 : FS (fun _ => False) w4 g f2 := hf4)
      | (go_at_call 15; refine Calls.mono (ops_any _ g f2 _ hf4) ?_; rw [O1]; rintro r _ ⟨rfl, rfl⟩))
    go_ret
    exact ⟨rfl, below_grown hb3 hg4 hb3.size hgw⟩
  · obtain ⟨rfl, rfl, rfl, hs, hs5, hp, hp63, hn⟩ := h
    have hs6 : ¬ 5 < s := by omega
    have hp6 : ¬ 63 < p := by omega
    have hn16 : (16 : Int) < within x 20 := by omega
    go_enter Try.func5, Try.ntmps5
    go_upto_region 5 with (first
      | (go_at_call 10; refine Calls.mono (known_any _) ?_; rintro r w1 ⟨rfl, hb1⟩)
      | (go_at_call 12; refine Calls.mono (new_any _) ?_; rintro r w2 ⟨rfl, hf2, hb2⟩)
      | (go_at_call 11; with_reducible refine Calls.mono (within_any x 20 _ _ rfl (by omega) (by omega)) ?_; rintro r _ ⟨rfl, rfl⟩))
    have hb2w := below_two hb1 hb2
    have hgw : w.heap.size ≤ w1.heap.size := hb1.size
    generalize w1.heap.size = g at hf2 hgw ⊢
    generalize within x 20 = N at *
    have hBZ : Bs (w2.alloc (.cells (bv Z).toArray 5)) (some ⟨w2.heap.size, 0, none⟩) N Z := Bs.lit _ rfl Z HZ.out.symm rfl
    have hmk2 := hmk w2
    clear hmk
    go_upto_region 6 with (go_at_call 13; refine Calls.mono (program_any _ g (fun _ h => h.elim) newF s p _ N N Z _ (hf2.below ((Below.refl _ _).alloc (Nat.le_refl _) _)) hBZ (by omega) (by omega)) ?_; rw [HP.out]; rintro r w3 ⟨rfl, hf3, hg3⟩)
    have hf3 : FS (fun _ => False) w3 g f1 := hf3
    have hb3 := below_grown (hb2w.alloc hb2w.size _) hg3 (Nat.le_trans hb2w.size (by simp)) hgw
    obtain ⟨A0, n0, c0, hh, _⟩ := id hf3
    have cl := fl_left hh
    clear hh
    go_wp2_with (first
      | (go_at_call 16; refine Calls.mono (erase_any _ g (fun _ h => h.elim) f1 s _ hf3) ?_; rw [HE.out]; rintro r w4 ⟨rfl, hf4, hg4⟩; have hf4 : FS (fun _ => False) w4 g f2 := hf4)
      | (go_at_call 15; refine Calls.mono (ops_any _ g f2 _ hf4) ?_; rw [O1]; rintro r _ ⟨rfl, rfl⟩))
    go_ret
    exact ⟨rfl, below_grown hb3 hg4 hb3.size hgw⟩
  · obtain ⟨rfl, rfl, rfl, hs, hs5, hp, hp63, hn⟩ := h
    have hs6 : ¬ 5 < s := by omega
    have hp6 : ¬ 63 < p := by omega
    have hn16 : ¬ (16 : Int) < within x 20 := by omega
    go_enter Try.func5, Try.ntmps5
    go_upto_region 5 with (first
      | (go_at_call 10; refine Calls.mono (known_any _) ?_; rintro r w1 ⟨rfl, hb1⟩)
      | (go_at_call 12; refine Calls.mono (new_any _) ?_; rintro r w2 ⟨rfl, hf2, hb2⟩)
      | (go_at_call 11; with_reducible refine Calls.mono (within_any x 20 _ _ rfl (by omega) (by omega)) ?_; rintro r _ ⟨rfl, rfl⟩))
    have hb2w := below_two hb1 hb2
    have hgw : w.heap.size ≤ w1.heap.size := hb1.size
    generalize w1.heap.size = g at hf2 hgw ⊢
    generalize within x 20 = N at *
    have hBZ : Bs (w2.alloc (.cells (bv Z).toArray 5)) (some ⟨w2.heap.size, 0, none⟩) N Z := Bs.lit _ rfl Z HZ.out.symm rfl
    have hmk2 := hmk w2
    clear hmk
    go_upto_region 6 with (go_at_call 13; refine Calls.mono (program_any _ g (fun _ h => h.elim) newF s p _ N N Z _ (hf2.below ((Below.refl _ _).alloc (Nat.le_refl _) _)) hBZ (by omega) (by omega)) ?_; rw [HP.out]; rintro r w3 ⟨rfl, hf3, hg3⟩)
    have hf3 : FS (fun _ => False) w3 g f1 := hf3
    have hb3 := below_grown (hb2w.alloc hb2w.size _) hg3 (Nat.le_trans hb2w.size (by simp)) hgw
    obtain ⟨A0, n0, c0, hh, _⟩ := id hf3
    have cl := fl_left hh
    clear hh
    go_wp2_with (first
      | (go_at_call 16; refine Calls.mono (erase_any _ g (fun _ h => h.elim) f1 s _ hf3) ?_; rw [HE.out]; rintro r w4 ⟨rfl, hf4, hg4⟩; have hf4 : FS (fun _ => False) w4 g f2 := hf4)
      | (go_at_call 15; refine Calls.mono (ops_any _ g f2 _ hf4) ?_; rw [O1]; rintro r _ ⟨rfl, rfl⟩))
    go_ret
    exact ⟨rfl, below_grown hb3 hg4 hb3.size hgw⟩
theorem flashAddr_top (s p x : Int) (w : World) (_ : -9223372036854775808 ≤ s ∧ s ≤ 9223372036854775807) (_ : -9223372036854775808 ≤ p ∧ p ≤ 9223372036854775807) (_ : -9223372036854775808 ≤ x ∧ x ≤ 9223372036854775807) :
    Calls Try.prog 5 #[.int .i64 s, .int .i64 p, .int .i64 x] w fun e w' => e = .returned (.bool true) ∧ Below w.heap.size w w' := by
  have d0 : newF.done = 0 := rfl
  by_cases h1 : s < 0
  · exact addr_core s p x w 12 12 newF newF 0 (prog_addr _ _ _ _ rfl (by omega)) (erase_addr _ _ rfl (by omega)) d0 (by omega)
  by_cases h2 : 5 < s
  · exact addr_core s p x w 12 12 newF newF 0 (prog_addr _ _ _ _ rfl (by omega)) (erase_addr _ _ rfl (by omega)) d0 (by omega)
  obtain ⟨k, rfl⟩ : ∃ k : Nat, s = k := ⟨s.toNat, by omega⟩
  have hk : k < 6 := by omega
  by_cases h3 : p < 0
  · exact addr_core k p x w 12 0 newF (doneE newF k) 1 (prog_addr _ _ _ _ rfl (by omega)) (erase_ok newF k rfl rfl hk) (by show wrap64 (0 + 1) = 1; simp [wrap64]) (by omega)
  by_cases h4 : 63 < p
  · exact addr_core k p x w 12 0 newF (doneE newF k) 1 (prog_addr _ _ _ _ rfl (by omega)) (erase_ok newF k rfl rfl hk) (by show wrap64 (0 + 1) = 1; simp [wrap64]) (by omega)
  obtain ⟨q, rfl⟩ : ∃ q : Nat, p = q := ⟨p.toNat, by omega⟩
  have hq : q < 64 := by omega
  by_cases h5 : 16 < within x 20
  · exact addr_core k q x w 5 0 newF (doneE newF k) 1 (prog_long _ _ _ _ rfl (by omega) (by rw [List.length_replicate]; exact h5)) (erase_ok newF k rfl rfl hk) (by show wrap64 (0 + 1) = 1; simp [wrap64]) (by omega)
  · exact addr_core k q x w 0 0 _ (doneE (doneP newF (k * 1024 + q * 16) (List.replicate (within x 20) 0)) k) 2 (prog_ok newF k q _ rfl rfl hk hq (by rw [List.length_replicate]; omega) (fits_blank _ _ _ fun j hj => newF_at _ (by omega))) (erase_ok _ k rfl rfl hk) (by show wrap64 (wrap64 (0 + 1) + 1) = 2; simp [wrap64]) (by omega)
end Go.Proofs.Ytdomdnmjabadiaa
