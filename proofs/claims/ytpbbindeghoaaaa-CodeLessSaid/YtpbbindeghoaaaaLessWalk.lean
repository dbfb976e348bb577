/- CodeLess: the walk. -/
import Derived.Test.YtpbbindeghoaaaaChecked
import Derived.Test.YtpbbindeghoaaaaCodeKnown
import Derived.Test.YtpbbindeghoaaaaReader
import Derived.Deep.DeepCutAuto
namespace Go.Proofs.Ytpbbindeghoaaaa
open Go.RowKit

set_option maxRecDepth 100000 in
theorem codeLess_none (A : Option Addr) (n c : Nat) (x : Int) (w : World) (hn : 200 < n) :
    Calls Try.prog 6 #[.int .i64 x, .slice A n c] w fun e w' => e = .returned (.bool true) ∧ Below w.heap.size w w' := by
  have h3 : (200 : Int) < n := by omega
  go_enter Try.func6, Try.ntmps6
  go_wp2_with (go_at_call 10; refine Calls.mono (known_any _) ?_; rintro e w1 ⟨rfl, hb1⟩)
  go_ret
  exact ⟨rfl, hb1⟩

theorem less_text (l : List UInt8) (N : Nat) (hN : l.length < N) (hN2 : N ≤ 65535) : textOf ([UInt8.ofNat N, UInt8.ofNat (N / 256)] ++ l) 0 = ([], l, 8) := by
  have h1 : taken ([UInt8.ofNat N, UInt8.ofNat (N / 256)] ++ l) 0 2 = ([UInt8.ofNat N, UInt8.ofNat (N / 256)], l, 0) := by
    unfold taken
    rw [if_neg (by simp), if_neg (by simp)]
    rfl
  have h2 : leN [UInt8.ofNat N, UInt8.ofNat (N / 256)] = N := by
    have e0 := low8 N
    have e1 := shr8 N hN2
    simp only [leN, List.foldr_cons, List.foldr_nil]
    omega
  unfold textOf
  rw [h1]
  dsimp only
  rw [h2]
  unfold taken
  rw [if_pos ⟨rfl, hN⟩]

set_option maxRecDepth 100000 in
set_option maxHeartbeats 1000000 in
theorem codeLess_walk (A : Option Addr) (n c : Nat) (l : List UInt8) (x : Int) (w : World) (hA : Bs w A n l) (hc : n ≤ c) (hc2 : c ≤ 9223372036854775807) (hn : n ≤ 200) :
    Calls Try.prog 6 #[.int .i64 x, .slice A n c] w fun e w' => e = .returned (.bool true) ∧ Below w.heap.size w w' := by
  have h3 : ¬ (200 : Int) < n := by omega
  have hx := within_lt x 300 (by omega)
  go_enter Try.func6, Try.ntmps6
  go_upto_region 6 with (first
    | (go_at_call 10; refine Calls.mono (known_any _) ?_; rintro e w1 ⟨rfl, hb1⟩; have hA1 := hA.keep (.of_below hb1))
    | (go_at_call 17; with_reducible refine Calls.mono (within_any x 300 _ _ rfl (by omega) (by omega)) ?_; rintro e _ ⟨rfl, rfl⟩))
  generalize within x 300 = a at hx ⊢
  have hl := hA.len
  have hs : (n : Int) + 1 + a = ((n + 1 + a : Nat) : Int) := by omega
  rw [hs]
  have ht := less_text l (n + 1 + a) (by omega) (by omega)
  have e0 := (low8 (n + 1 + a)).symm
  have e1 := (shr8 (n + 1 + a) (by omega)).symm
  have hN : n + 1 + a ≤ 600 := by omega
  generalize n + 1 + a = N at ht e0 e1 hN ⊢
  clear hs
  generalize UInt8.ofNat N = b0 at ht e0
  generalize UInt8.ofNat (N / 256) = b1 at ht e1
  have hb1' := byte_lt b1
  have hb2' : ((b1.toNat : Nat) : Int) < 256 := by omega
  have HT := Lib.hid ht
  have HL := Lib.hid hl
  clear ht hl
  have hO : (w1.alloc (.cells #[.int .u8 (b0.toNat : Int), .int .u8 (b1.toNat : Int)] 5)).ownsRow w1.heap.size 5 1 (.slice (some ⟨w1.heap.size, 0, none⟩) 2 2) 2 (bv [b0, b1]) :=
    ⟨rfl, .inr ⟨_, _, _, rfl, Nat.le_refl _, heap_alloc_new w1 _, Nat.le_refl _, by simp [maxLen], rfl, rfl⟩⟩
  go_upto_region 7 with (first
    | (at_builtin; refine appendB _ rfl (.tmp 25) (.tmp 26) rfl w1.heap.size _ _ _ rfl hO A n c l rfl (hA1.alloc _) (by omega) (by simp) ?_; intro v2 w2 hown2 hg2 hat2; obtain ⟨B2, c2, rfl, q1, q2, q3, _⟩ := own_slice hown2; have hb2 := below_append ((Below.refl _ w1).alloc (Nat.le_refl _) _) hg2 hO (by simp))
    | (go_at_call 18; refine Calls.mono (new_any _ _ _ _ _ q3 (by omega)) ?_; rintro e w3 ⟨g, rfl, hg1, hg3, cr3, hb3⟩))
  have hB3 := below_two (below_two hb1 hb2) hb3
  have hgw : w.heap.size ≤ g := Nat.le_trans (below_two hb1 hb2).size hg1
  obtain ⟨_, _, _, hgo, _⟩ := id cr3
  have hcl := cell_of_block (i := 0) hgo rfl
  clear hgo
  go_upto_region 8 with (go_at_call 22; refine Calls.mono (readText_any g _ 0 _ cr3) ?_; rw [HT.out]; rintro e w4 ⟨rfl, cr4, gr4⟩)
  have cr4 : CR w4 g l 8 := cr4
  have hB4 := below_grown hB3 gr4 hB3.size hgw
  have hA4 := hA.keep (.of_below hB4)
  by_cases h7 : 7 < n
  · have hA5 := hA4.to_ (k := 7) (by omega)
    have hm : min (n : Int) 7 = 7 := by omega
    have h7a : (7 : Int) < n := by omega
    have h7b : ¬ (n : Int) ≤ 7 := by omega
    have hM3 : (7 : Int) ≤ c := by omega
    clear cr3 hcl
    go_upto_region 9 with (go_at_call 18; refine Calls.mono (new_any _ _ _ _ _ hA5 (by omega)) ?_; rintro e w5 ⟨g2, rfl, hg4, hg5, cr5, hb5⟩)
    have ht2 : taken (l.take 7) 0 8 = ([], l.take 7, 8) := by
      unfold taken
      rw [if_pos ⟨rfl, by rw [hA5.len]; omega⟩]
    have HT2 := Lib.hid ht2
    clear ht2
    go_upto_region 10 with (go_at_call 19; refine Calls.mono (readInt_any g2 _ 0 _ cr5) ?_; rw [HT2.out]; dsimp only; rw [show wrap64 ((leN [] : Nat) : Int) = 0 by simp [wrap64, leN]]; rintro e w6 ⟨rfl, cr6, gr6⟩)
    have hb6 := below_grown hb5 gr6 hb5.size hg4
    have cr := cr4.below hb6
    have hbw := below_two hB4 hb6
    go_wp2_with (first
      | (go_at_call 21; with_reducible refine Calls.mono (end_bad g _ 8 _ cr (by decide)) ?_; rintro e _ ⟨rfl, rfl⟩)
      | (go_at_call 21; with_reducible refine Calls.mono (end_bad g2 _ 8 _ cr6 (by decide)) ?_; rintro e _ ⟨rfl, rfl⟩))
    go_ret
    exact ⟨rfl, hbw⟩
  · have hA5 := hA4.to_ (k := n) (by omega)
    have hm : min (n : Int) 7 = n := by omega
    have h7b : (n : Int) ≤ 7 := by omega
    have h7d : min n 7 = n := by omega
    have hM3 : (n : Int) ≤ c := by omega
    clear cr3 hcl
    go_upto_region 9 with (go_at_call 18; refine Calls.mono (new_any _ _ _ _ _ hA5 (by omega)) ?_; rintro e w5 ⟨g2, rfl, hg4, hg5, cr5, hb5⟩)
    have ht2 : taken (l.take n) 0 8 = ([], l.take n, 8) := by
      unfold taken
      rw [if_pos ⟨rfl, by rw [hA5.len]; omega⟩]
    have HT2 := Lib.hid ht2
    clear ht2
    go_upto_region 10 with (go_at_call 19; refine Calls.mono (readInt_any g2 _ 0 _ cr5) ?_; rw [HT2.out]; dsimp only; rw [show wrap64 ((leN [] : Nat) : Int) = 0 by simp [wrap64, leN]]; rintro e w6 ⟨rfl, cr6, gr6⟩)
    have hb6 := below_grown hb5 gr6 hb5.size hg4
    have cr := cr4.below hb6
    have hbw := below_two hB4 hb6
    go_wp2_with (first
      | (go_at_call 21; with_reducible refine Calls.mono (end_bad g _ 8 _ cr (by decide)) ?_; rintro e _ ⟨rfl, rfl⟩)
      | (go_at_call 21; with_reducible refine Calls.mono (end_bad g2 _ 8 _ cr6 (by decide)) ?_; rintro e _ ⟨rfl, rfl⟩))
    go_ret
    exact ⟨rfl, hbw⟩

theorem codeLess_top (x : Int) (A : Option Addr) (n c : Nat) (l : List UInt8) (w : World) (_ : -9223372036854775808 ≤ x ∧ x ≤ 9223372036854775807) (hA : Bs w A n l) (hc : n ≤ c) (hc2 : c ≤ 140737488351232) :
    Calls Try.prog 6 #[.int .i64 x, .slice A n c] w fun e w' => e = .returned (.bool true) ∧ Below w.heap.size w w' := by
  by_cases h : 200 < n
  · exact codeLess_none A n c x w h
  · exact codeLess_walk A n c l x w hA hc (by omega) (by omega)
end Go.Proofs.Ytpbbindeghoaaaa
