/- FlashTwins: the walk. -/
import Derived.Test.YtdomdnmjabadiaaFlashDo
namespace Go.Proofs.Ytdomdnmjabadiaa
open Go.RowKit

set_option maxRecDepth 100000 in
set_option maxHeartbeats 8000000 in
theorem flashTwins_walk (A : Option Addr) (n c : Nat) (l : List ActV) (w : World) (hA : Acts w A n l) (hc0 : n ≤ c) (hc2 : c ≤ 9223372036854775807) :
    Calls Try.prog 8 #[.slice A n c] w fun e w' => e = .returned (.bool true) ∧ Below w.heap.size w w' := by
  have hl := Lib.hid hA.1
  go_enter Try.func8, Try.ntmps8
  go_upto_region 3 with (go_at_call 10; refine Calls.mono (known_any _) ?_; rintro e w1 ⟨rfl, hb1⟩)
  have hA1 := hA.keep (.of_below hb1)
  by_cases hfew : (fewA l && decide (n ≤ 80)) = true
  · have HF := Lib.hid hfew
    go_upto_region 5 with (go_at_call 20; refine Calls.mono (few_any A n c l _ hA1 hc0 hc2) ?_; rw [HF.out]; rintro e _ ⟨rfl, rfl⟩)
    go_upto_region 7 with (first
      | (go_at_call 12; have _ := hbB; refine Calls.mono (new_any _) ?_; rintro r w4 ⟨rfl, hfC, hbC⟩)
      | (go_at_call 12; have _ := hbA; refine Calls.mono (new_any _) ?_; rintro r w3 ⟨rfl, hfB, hbB⟩)
      | (go_at_call 12; refine Calls.mono (new_any _) ?_; rintro r w2 ⟨rfl, hfA, hbA⟩)
      | (go_at_call 21; have _ := hbD; refine Calls.mono (refNew_any _) ?_; rintro r w6 ⟨rfl, hfE, hbE⟩)
      | (go_at_call 21; refine Calls.mono (refNew_any _) ?_; rintro r w5 ⟨rfl, hfD, hbD⟩))
    have hb := below_two (below_two (below_two (below_two (below_two hb1 hbA) hbB) hbC) hbD) hbE
    have s1 := hb1.size
    have s2 := hfA.lt
    have s3 := hfB.lt
    have s4 := hfC.lt
    have s5 := hfD.lt
    have s6 := hfE.lt
    have hfA := (((hfA.below hbB).below hbC).below hbD).below hbE
    have hfB := ((hfB.below hbC).below hbD).below hbE
    have hfC := (hfC.below hbD).below hbE
    have hfD := hfD.below hbE
    clear hbA hbB hbC hbD hbE hb1 hA1
    generalize w1.heap.size = b1 at *
    generalize w2.heap.size = b2 at *
    generalize w3.heap.size = b3 at *
    generalize w4.heap.size = b4 at *
    generalize w5.heap.size = b5 at *
    obtain ⟨Q, hQ⟩ : ∃ Q : Nat → Prop, Q = fun b => b ≠ b1 ∧ b ≠ b2 ∧ b ≠ b3 ∧ b ≠ b4 ∧ b ≠ b5 := ⟨_, rfl⟩
    have q1 : ∀ b, Q b → b ≠ b1 := by rw [hQ]; exact fun _ h => h.1
    have q2 : ∀ b, Q b → b ≠ b2 := by rw [hQ]; exact fun _ h => h.2.1
    have q3 : ∀ b, Q b → b ≠ b3 := by rw [hQ]; exact fun _ h => h.2.2.1
    have q4 : ∀ b, Q b → b ≠ b4 := by rw [hQ]; exact fun _ h => h.2.2.2.1
    have q5 : ∀ b, Q b → b ≠ b5 := by rw [hQ]; exact fun _ h => h.2.2.2.2
    have qn : ∀ b, b5 < b → Q b := by rw [hQ]; exact fun _ h => ⟨by omega, by omega, by omega, by omega, by omega⟩
    have hfA : FS Q w6 b1 newF := hfA.weak fun _ h => h.elim
    have hfB : FS Q w6 b2 newF := hfB.weak fun _ h => h.elim
    have hfC : FS Q w6 b3 newF := hfC.weak fun _ h => h.elim
    have hfD : RF Q w6 b4 newF := hfD.weak fun _ h => h.elim
    have hfE : RF Q w6 b5 newF := hfE.weak fun _ h => h.elim
    clear hQ
    obtain ⟨H0, hH0⟩ : ∃ H0, H0 = newF := ⟨_, rfl⟩
    rw [← hH0] at hfC
    clear hH0
    obtain ⟨F0, hF0⟩ : ∃ F0, F0 = newF := ⟨_, rfl⟩
    rw [← hF0] at hfA hfB hfD hfE
    clear hF0
    go_wp2_with fail
    go_loopw [8] (fun iv wr => ∃ (k : Nat) (F H : FlashSt), k ≤ n ∧ iv = .int .i64 k ∧ Below w.heap.size w wr ∧ FS Q wr b1 F ∧ FS Q wr b2 F ∧ FS Q wr b3 H ∧ RF Q wr b4 F ∧ RF Q wr b5 F) (fun iv _ => n - (intOf iv).toNat)
    case atStart => exact ⟨0, F0, H0, by omega, rfl, hb, hfA, hfB, hfC, hfD, hfE⟩
    case round =>
      clear hb hfA hfB hfC hfD hfE
      obtain ⟨k, F, H, hk, rfl, hbr, rA, rB, rC, rD, rE⟩ := hrel
      have sw := rE.lt
      by_cases hlt : k < n
      · have hk1 : (k : Int) < n := by omega
        have hk0 : (0 : Int) ≤ k := by omega
        obtain ⟨g, o, a, rfl, hat, _, hx⟩ := hA.next hlt
        obtain ⟨zk, zs, zp, zn, lb⟩ := a
        obtain ⟨z0, z1, z2, z3, B, m, d, z4, hB, hm, hd⟩ := hat
        dsimp only at z0 z1 z2 z3 hB
        have h40 : lb.length ≤ 40 := by
          have := hfew
          rw [Bool.and_eq_true] at this
          have := (List.all_eq_true.1 this.1) _ (List.mem_of_getElem? hx.out)
          simpa using this
        have hin := hB.inQ
        have c0 := Keeps.of_below hbr _ _ z0
        have c1 := Keeps.of_below hbr _ _ z1
        have c2 := Keeps.of_below hbr _ _ z2
        have c3 := Keeps.of_below hbr _ _ z3
        have c4 := Keeps.of_below hbr _ _ z4
        have hBr := hB.keep (.of_below hbr)
        have g1 : w.heap.size ≤ b1 := s1
        clear hx
        go_wp2_with (first
          | (go_at_call 22; have _ := P1
             refine Calls.mono (do_any Q b2 b5 q2 q5 (by omega) F zk zs zp zn lb B m d wb rB2 rE2 (fun b hb => qn b (by omega)) hB2 (fun h => fun a e hh => by have := hin h a e; omega) hm hd h40) ?_
             rintro r wc ⟨rfl, rB3, rE3, wn, P3, P4⟩
             have rA3 := (rA2.other P3 (by omega) q2).other P4 (by omega) q5
             have rC3 := (rC2.other P3 (by omega) q2).other P4 (by omega) q5
             have rD3 := (rD2.other P3 (by omega) q2).other P4 (by omega) q5
             have hb3 := below_grown (below_grown hb2 P3 hb2.size (by omega)) P4 (Nat.le_trans hb2.size P3.size) (by omega))
          | (go_at_call 22
             refine Calls.mono (do_any Q b1 b4 q1 q4 (by omega) F zk zs zp zn lb B m d wr rA rD (fun b hb => qn b (by omega)) hBr (fun h => fun a e hh => by have := hin h a e; omega) hm hd h40) ?_
             rintro r wb ⟨rfl, rA2, rD2, wm, P1, P2⟩
             have rB2 := (rB.other P1 (by omega) q1).other P2 (by omega) q4
             have rC2 := (rC.other P1 (by omega) q1).other P2 (by omega) q4
             have rE2 := (rE.other P1 (by omega) q1).other P2 (by omega) q4
             have sw2 := rE2.lt
             have hb2 := below_grown (below_grown hbr P1 hbr.size (by omega)) P2 (Nat.le_trans hbr.size P1.size) (by omega)
             have d0 := Keeps.of_below hb2 _ _ z0
             have d1 := Keeps.of_below hb2 _ _ z1
             have d2 := Keeps.of_below hb2 _ _ z2
             have d3 := Keeps.of_below hb2 _ _ z3
             have d4 := Keeps.of_below hb2 _ _ z4
             have hB2 := hB.keep (.of_below hb2))
          | (go_at_call 13
             refine Calls.mono (program_any Q b3 q3 H _ _ _ 2 2 [1, 2] _ (rC3.below ((Below.refl _ _).alloc (Nat.le_refl _) _)) (Bs.lit 5 rfl [1, 2] rfl rfl) (by omega) (by omega)) ?_
             rintro r wd ⟨rfl, rC4, P5⟩
             have P5 := grown_trans (grown_below ((Below.refl _ wc).alloc (Nat.le_refl _) _) (some b3)) P5))
        go_roundw
        case rel => exact ⟨k + 1, _, _, by omega, by go_num, below_grown hb3 P5 hb3.size (by omega), rA3.other P5 (by omega) q3, rB3.other P5 (by omega) q3, rC4, rD3.other P5 (by omega) q3, rE3.other P5 (by omega) q3⟩
        case measure => simp [intOf]; omega
      · have hk1 : ¬ (k : Int) < n := by omega
        go_wp2_with (first
          | (go_at_call 23; have _ := hS1; refine Calls.mono (same_any Q Q b2 b4 F w7 (rB.below hS1) (rD.below hS1)) ?_; rintro r w8 ⟨rfl, hS2⟩)
          | (go_at_call 23; refine Calls.mono (same_any Q Q b1 b5 F wr rA rE) ?_; rintro r w7 ⟨rfl, hS1⟩))
        go_ret
        exact ⟨rfl, below_two (below_two hbr hS1) hS2⟩
  · have HF := Lib.hid (Bool.eq_false_iff.2 hfew)
    go_wp2_with (go_at_call 20; refine Calls.mono (few_any A n c l _ hA1 hc0 hc2) ?_; rw [HF.out]; rintro e _ ⟨rfl, rfl⟩)
    go_ret
    exact ⟨rfl, hb1⟩
theorem flashTwins_top (A : Option Addr) (n c : Nat) (l : List ActV) (w : World) (hA : Acts w A n l) (hc0 : n ≤ c) (hc2 : c ≤ 9223372036854775807) :
    Calls Try.prog 8 #[.slice A n c] w fun e w' => e = .returned (.bool true) ∧ Below w.heap.size w w' := flashTwins_walk A n c l w hA hc0 hc2
end Go.Proofs.Ytdomdnmjabadiaa
