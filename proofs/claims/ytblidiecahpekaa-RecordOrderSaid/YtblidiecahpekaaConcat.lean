/- slices.Grow, Concat at bytes. slices.Clone, Grow, Concat at bytes. -/
import Derived.Test.YtblidiecahpekaaKnApp
import Derived.Lib.AppendZerosOnto
import Derived.Lib.SliceRun
import Derived.Test.YtblidiecahpekaaClone
set_option linter.unusedVariables false
set_option linter.unusedSimpArgs false
namespace Go.Proofs.Ytblidiecahpekaa
open Go.RowKit

theorem size_zeros (k : Nat) : (Builtin.zeroCells #[Value.int .u8 0] k).size = k := by simp [Builtin.zeroCells]

set_option maxRecDepth 100000 in
theorem grow_nil (k : Nat) (w : World) (hk : k ≤ 140737488355328) :
    Calls Try.prog 57 #[.slice none 0 0, .int .i64 k] w fun e w' => ∃ v, e = .returned v ∧ w'.ownsRow w.heap.size 5 1 v 0 [] ∧ Below w.heap.size w w' := by
  obtain ⟨i0, hi0, hz0, hz1, hz2⟩ := info_parts byteInfo
  by_cases h0 : 0 < k
  · have hr := Lib.run_append_grow_zeros (P := Try.prog) w 32 3 32 5 i0 (.int .u8 0) .i64 .i64 Try.underlying32 Try.underlying3 hi0 hz0 none 0 0 []
      (by simp [Builtin.firstCells]) k h0 (by omega) (by omega) (by omega) (by rw [hz2]; omega) (by rw [Nat.zero_add, nextslicecap_zero h0, hz2]; omega)
    have hc1 := grownCap_ge w (0 + k) 0 5
    have hc2 := grownCap_le_maxLen w (0 + k) 0 5 (by simp only [maxLen]; omega)
    generalize grownCap w (0 + k) 0 5 = g at hr hc1 hc2
    have hB := (Below.refl w.heap.size w).drew.alloc (Nat.le_refl _) (.cells (([] : List Value).toArray ++ Builtin.zeroCells #[Value.int .u8 0] k ++ Builtin.zeroCells #[Value.int .u8 0] (g - (0 + k))) 5)
    have hO := World.ownsRow_made (base := w.heap.size) (e := 5) (size := 1) w.drew (([] : List Value).toArray ++ Builtin.zeroCells #[Value.int .u8 0] k ++ Builtin.zeroCells #[Value.int .u8 0] (g - (0 + k))) g (Nat.le_refl _) hc2 (by simp [size_zeros]; omega)
    simp only [Value.cells] at hr
    generalize (([] : List Value).toArray ++ Builtin.zeroCells #[Value.int .u8 0] k ++ Builtin.zeroCells #[Value.int .u8 0] (g - (0 + k))) = C at hr hB hO
    rw [Nat.zero_add] at hr
    simp only [maxLen] at hc2
    have hkz : (0 : Int) < (k : Int) := by omega
    go_enter Try.func57, Try.ntmps57
    have HR := Lib.hid hr; clear hr
    go_wp2_with (at_builtin; refine wpList_append_run rfl (.tmp 20) (.tmp 21) 32 3 rfl (by rfl) (by rfl) HR.out ?_)
    go_ret
    exact ⟨_, rfl, hO, hB⟩
  · obtain rfl : k = 0 := by omega
    go_enter Try.func57, Try.ntmps57
    go_wp2
    go_ret
    exact ⟨_, rfl, World.ownsRow_nil _ _ _ _, Below.refl _ _⟩

set_option maxRecDepth 100000 in
/-- the parts together are at most 2^40 bytes -/
theorem concat_any (A : Option Addr) (n c : Nat) (ls : List (List UInt8)) (w : World) (hA : Ps w A n ls) (hn : n ≤ 1048576) (hsum : ls.flatten.length ≤ 1099511627776) :
    Calls Try.prog 50 #[.slice A n c] w fun e w' => ∃ v, e = .returned v ∧ w'.ownsRow w.heap.size 5 1 v ls.flatten.length (bv ls.flatten) ∧ Below w.heap.size w w' := by
  obtain ⟨i0, hi0, hz0, hz1, hz2⟩ := info_parts byteInfo
  have hle : ∀ k, (ls.take k).flatten.length ≤ 1099511627776 := by
    intro k
    have : ls.flatten.length = (ls.take k).flatten.length + (ls.drop k).flatten.length := by
      rw [← List.length_append, ← List.flatten_append, List.take_append_drop]
    omega
  clear hsum
  go_enter Try.func50, Try.ntmps50
  go_wp2_with fail
  go_loop [3, 11] (fun v i => ∃ (k s : Nat), k ≤ n ∧ i = .int .i64 k ∧ v = .int .i64 s ∧ Hid (s = (ls.take k).flatten.length) ∧ s ≤ 1099511627776) (fun _ i => n - (intOf i).toNat)
  case atStart => exact ⟨0, 0, Nat.zero_le _, rfl, rfl, rfl, by omega⟩
  case round =>
    obtain ⟨k, s, hk, rfl, rfl, hs, hs2⟩ := hrel
    by_cases hlt : k < n
    · obtain ⟨pb, po, B, m, d, l, rfl, hcell, hB, hm, hd, ht, hsk⟩ := hA.next hlt
      have hx : (ls.take (k + 1)).flatten.length = s + m := by
        rw [ht.out, List.flatten_append, List.length_append, ← hs.out]; simp [hB.len]
      have hx2 := hle (k + 1)
      rw [hx] at hx2
      have Hx := Lib.hid hx; clear hx
      have hnn : ¬ ((s : Int) + (m : Int) < 0) := by omega
      go_wp2_with fail
      go_round
      case rel => exact ⟨k + 1, s + m, by omega, by go_num, by go_num, Hx.out.symm, hx2⟩
      case measure => simp [intOf]; omega
    · obtain rfl : k = n := by omega
      go_wp2_with (go_at_call 57; refine (grow_nil _ _ (by omega)).mono ?_; rintro e w1 ⟨v1, rfl, hown1, hb1⟩)
      go_loopw [6, 27] (fun v i wr => ∃ (j : Nat), j ≤ k ∧ i = .int .i64 j ∧ wr.ownsRow w.heap.size 5 1 v (ls.take j).flatten.length (bv (ls.take j).flatten) ∧ Below w.heap.size w wr) (fun _ i _ => k - (intOf i).toNat)
      case atStart => exact ⟨0, Nat.zero_le _, rfl, hown1, hb1⟩
      case round =>
        obtain ⟨j, hj, rfl, hown, hbel⟩ := hrel
        have hAr := hA.keep (.of_below hbel)
        have hx := hle j
        have hy := hle (j + 1)
        generalize hL : (ls.take j).flatten = L at hown hx
        have HL := Lib.hid hL; clear hL
        generalize hN : L.length = N at hown hx
        have HN := Lib.hid hN; clear hN
        by_cases hlt : j < k
        · obtain ⟨pb, po, B, m, d, l, rfl, hcell, hB, hm, hd, ht, hsk⟩ := hAr.next hlt
          have hNm : N + m ≤ 1099511627776 := by
            rw [ht.out, List.flatten_append, List.length_append, HL.out, HN.out] at hy; simpa [hB.len] using hy
          clear hy hle
          go_wp2_with (at_builtin; refine wpList_append_V _ rfl (.tmp 31) (.tmp 32) 32 rfl w.heap.size 5 i0 (.int .u8 0) 1 Try.underlying32 hi0 hz0 hz1 hz2 rfl _ _ _ rfl hown B m d (bv l) rfl hB (bv_one l) (by omega) (by simp only [maxLen]; omega) hbel.size ?_; intro v1 w1 hown1 hg1 hat1)
          go_roundw
          case rel =>
            refine ⟨j + 1, by omega, by go_num, ?_, below_append hbel hg1 hown hbel.size⟩
            rw [ht.out, List.flatten_append, HL.out, List.length_append, HN.out, bv_append]
            simp only [List.flatten_cons, List.flatten_nil, List.append_nil]
            rw [hB.len]
            exact hown1
          case measure => simp [intOf]; omega
        · obtain rfl : j = k := by omega
          go_wp2_with fail
          go_ret
          refine ⟨_, rfl, ?_, hbel⟩
          rw [hA.all] at HL
          rw [HL.out, HN.out]
          exact hown
end Go.Proofs.Ytblidiecahpekaa
