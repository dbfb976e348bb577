/- CodeFails: the walk. -/
import Derived.Test.YtpbbindeghoaaaaChecked
import Derived.Test.YtpbbindeghoaaaaCodeKnown
import Derived.Test.YtpbbindeghoaaaaReader
import Derived.Deep.DeepCutAuto
namespace Go.Proofs.Ytpbbindeghoaaaa
open Go.RowKit

set_option maxRecDepth 100000 in
theorem codeFails_none (A : Option Addr) (n c : Nat) (x y : Int) (w : World) (hn : 100 < n) :
    Calls Try.prog 9 #[.slice A n c, .int .i64 x, .int .i64 y] w fun e w' => e = .returned (.bool true) ∧ Below w.heap.size w w' := by
  have h3 : (100 : Int) < n := by omega
  go_enter Try.func9, Try.ntmps9
  go_wp2_with (go_at_call 10; refine Calls.mono (known_any _) ?_; rintro e w1 ⟨rfl, hb1⟩)
  go_ret
  exact ⟨rfl, hb1⟩

set_option maxRecDepth 100000 in
set_option maxHeartbeats 1000000 in
theorem codeFails_walk (A : Option Addr) (n c : Nat) (l : List UInt8) (x y : Int) (w : World) (hA : Bs w A n l) (hn : n ≤ 100) :
    Calls Try.prog 9 #[.slice A n c, .int .i64 x, .int .i64 y] w fun e w' => e = .returned (.bool true) ∧ Below w.heap.size w w' := by
  have h3 : ¬ (100 : Int) < n := by omega
  have hx := within_lt x 22 (by omega)
  have hy := within_lt y 22 (by omega)
  go_enter Try.func9, Try.ntmps9
  go_upto_region 6 with (first
    | (go_at_call 10; refine Calls.mono (known_any _) ?_; rintro e w1 ⟨rfl, hb1⟩; have hA1 := hA.keep (.of_below hb1))
    | (go_at_call 17; with_reducible refine Calls.mono (within_any x 22 _ _ rfl (by omega) (by omega)) ?_; rintro e _ ⟨rfl, rfl⟩)
    | (go_at_call 17; with_reducible refine Calls.mono (within_any y 22 _ _ rfl (by omega) (by omega)) ?_; rintro e _ ⟨rfl, rfl⟩))
  generalize within x 22 = a at hx ⊢
  generalize within y 22 = b
  have hE : (1 : Int) + a ≠ 0 := by omega
  generalize (1 : Int) + a = E at hE ⊢
  generalize (1 : Int) + b = F
  clear hx hy
  have he0 := hE
  go_upto_region 7 with (go_at_call 18; refine Calls.mono (new_any _ _ _ l _ hA1 (by omega)) ?_; rintro e w2 ⟨g, rfl, hg1, hg2, cr2, hb2⟩)
  have hB2 := below_two hb1 hb2
  have hgw : w.heap.size ≤ g := Nat.le_trans hb1.size hg1
  obtain ⟨_, _, _, hgo, _⟩ := id cr2
  have hcl := cell_of_block (i := 0) hgo rfl
  clear hgo
  go_upto_region 8 with (go_at_call 27; refine Calls.mono (fail_ok g l 0 _ cr2) ?_; rintro e w3 ⟨rfl, cr3, gr3⟩)
  go_upto_region 9 with (go_at_call 21; refine Calls.mono (end_any g l 0 _ cr3) ?_; rintro e _ ⟨rfl, rfl⟩)
  go_upto_region 10 with (go_at_call 27; refine Calls.mono (fail_ok g l E _ cr3) ?_; rintro e w4 ⟨rfl, cr4, gr4⟩)
  go_upto_region 11 with (go_at_call 27; refine Calls.mono (fail_bad g l E F _ cr4 he0) ?_; rintro e w5 ⟨rfl, cr5, gr5⟩)
  go_upto_region 12 with (first
    | (go_at_call 19; refine Calls.mono (readInt_bad g l E _ cr5 he0) ?_; rintro e w6 ⟨rfl, cr6, gr6⟩)
    | (go_at_call 22; refine Calls.mono (readText_bad g l E _ cr6 he0) ?_; rintro e w7 ⟨rfl, cr7, gr7⟩)
    | (go_at_call 20; refine Calls.mono (readByte_bad g l E _ cr7 he0) ?_; rintro e w8 ⟨rfl, cr8, gr8⟩))
  have gr := grown_trans gr3 (grown_trans gr4 (grown_trans gr5 (grown_trans gr6 (grown_trans gr7 gr8))))
  have hB8 := below_grown hB2 gr hB2.size hgw
  clear cr2 cr3 cr4 cr5 cr6 cr7
  go_upto_region 13 with (go_at_call 18; refine Calls.mono (new_any _ _ _ [] _ (Bs.nil _ _) (by omega)) ?_; rintro e w9 ⟨g2, rfl, hg3, hg4, cr9, hb9⟩)
  go_upto_region 14 with (go_at_call 19; refine Calls.mono (readInt_any g2 [] 0 _ cr9) ?_; rintro e w10 ⟨rfl, cr10, gr10⟩)
  have cr10 : CR w10 g2 [] 8 := cr10
  go_upto_region 15 with (go_at_call 27; refine Calls.mono (fail_bad g2 [] 8 F _ cr10 (by decide)) ?_; rintro e w11 ⟨rfl, cr11, gr11⟩)
  have hb11 := below_grown hb9 (grown_trans gr10 gr11) hb9.size hg3
  have cr := cr8.below hb11
  have hbw := below_two hB8 hb11
  have hl := hA.len
  by_cases hn0 : n = 0
  · have hen : ended l 0 = 0 := by unfold ended; rw [if_neg (by omega)]
    have hnz : ((n : Int) == 0) = true := by rw [beq_iff_eq]; omega
    rw [hen]
    clear hl hen
    go_wp2_with (first
      | (go_at_call 21; with_reducible refine Calls.mono (end_bad g l E _ cr he0) ?_; rintro e _ ⟨rfl, rfl⟩)
      | (go_at_call 21; with_reducible refine Calls.mono (end_bad g2 [] 8 _ cr11 (by decide)) ?_; rintro e _ ⟨rfl, rfl⟩))
    go_ret
    exact ⟨rfl, hbw⟩
  · have hen : ended l 0 = 9 := by unfold ended; rw [if_pos ⟨rfl, by omega⟩]
    have hnz : ((n : Int) == 0) = false := by rw [beq_eq_false_iff_ne]; omega
    rw [hen]
    clear hl hen
    go_wp2_with (first
      | (go_at_call 21; with_reducible refine Calls.mono (end_bad g l E _ cr he0) ?_; rintro e _ ⟨rfl, rfl⟩)
      | (go_at_call 21; with_reducible refine Calls.mono (end_bad g2 [] 8 _ cr11 (by decide)) ?_; rintro e _ ⟨rfl, rfl⟩))
    go_ret
    exact ⟨rfl, hbw⟩

theorem codeFails_top (A : Option Addr) (n c : Nat) (l : List UInt8) (x y : Int) (w : World) (hA : Bs w A n l) (hc : n ≤ c) (hc2 : c ≤ 140737488351232)
    (_ : -9223372036854775808 ≤ x ∧ x ≤ 9223372036854775807) (_ : -9223372036854775808 ≤ y ∧ y ≤ 9223372036854775807) :
    Calls Try.prog 9 #[.slice A n c, .int .i64 x, .int .i64 y] w fun e w' => e = .returned (.bool true) ∧ Below w.heap.size w w' := by
  by_cases h : 100 < n
  · exact codeFails_none A n c x y w h
  · exact codeFails_walk A n c l x y w hA (by omega)
end Go.Proofs.Ytpbbindeghoaaaa
