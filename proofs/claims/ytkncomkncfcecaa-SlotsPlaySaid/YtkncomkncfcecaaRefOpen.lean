/- The reference's Seal and Open: what each returns. -/
import Derived.Test.YtkncomkncfcecaaChecked
import Derived.Test.YtkncomkncfcecaaOpen
import Derived.Test.YtkncomkncfcecaaConcat
set_option linter.unusedVariables false
set_option linter.unusedSimpArgs false
namespace Go.Proofs.Ytkncomkncfcecaa
open Go.RowKit
set_option maxRecDepth 100000 in
theorem refSeal_any (A : Option Addr) (n c : Nat) (l : List UInt8) (w : World) (hA : Bs w A n l) (hn : n ≤ 65535) (hc : n ≤ c) (hc2 : c ≤ 9223372036854775807) :
    Calls Try.prog 68 #[.slice A n c] w fun e w' => ∃ v, e = .returned v ∧ w'.ownsRow w.heap.size 5 1 v (n + 6) (bv (sealed l)) ∧ Below w.heap.size w w' := by
  obtain ⟨i0, hi0, hz0, hz1, hz2⟩ := info_parts byteInfo
  have hl := hA.len
  have hh := (crc l).isLt
  have hO : (w.alloc (.cells #[.int .u8 ((n : Int) % 256), .int .u8 ((n : Int) / 256), .int .u8 (((crc l).toNat : Int) % 256), .int .u8 (((crc l).toNat : Int) / 256 % 256), .int .u8 (((crc l).toNat : Int) / 65536 % 256), .int .u8 (((crc l).toNat : Int) / 16777216)] 5)).ownsRow
      w.heap.size 5 1 (.slice (some ⟨w.heap.size, 0, none⟩) 6 6) 6 (bv (sealHead l)) := by
    refine ⟨rfl, .inr ⟨_, _, _, rfl, Nat.le_refl _, heap_alloc_new w _, Nat.le_refl _, by simp [maxLen], rfl, ?_⟩⟩
    simp only [bv, sealHead, List.map_cons, List.map_nil, Wj, hl]
    rw [Nat.mod_eq_of_lt (a := n / 256) (by omega), Nat.mod_eq_of_lt (a := (crc l).toNat / 16777216) (by omega)]
    simp
  clear hl hh
  go_enter Try.func68, Try.ntmps68
  go_wp2_with (first | (go_at_call 90; refine Calls.mono (XP _ _ _ l _ hA (by omega)) ?_; rintro e w1 ⟨rfl, rfl⟩) | (at_builtin; refine YB _ rfl (.tmp 29) (.tmp 30) 32 rfl w.heap.size 5 i0 (.int .u8 0) 1 Try.underlying32 hi0 hz0 hz1 hz2 rfl (.slice (some ⟨w.heap.size, 0, none⟩) 6 6) 6 (bv (sealHead l)) rfl hO A n c (bv l) rfl (hA.alloc _) (WH l) (by omega) (by simp only [maxLen]; omega) (by simp) ?_; intro v1 w1 hown1 hg1 hat1))
  go_ret
  refine ⟨_, rfl, ?_, ((Below.refl _ w).alloc (Nat.le_refl _) _).grown hg1 (by simp) (by simp [Value.ownBlock])⟩
  unfold sealed
  rw [X0, Nat.add_comm n 6]
  exact hown1
set_option maxRecDepth 100000 in
theorem refOpen_cut (A : Option Addr) (n c : Nat) (w : World) (hn : n < 6) :
    Calls Try.prog 89 #[.slice A n c] w fun e w' => e = .returned (.tuple #[.slice none 0 0, .int .i64 0, .int .i64 8]) ∧ w = w' := by
  go_enter Try.func89, Try.ntmps89
  go_wp2
  go_ret3
  exact ⟨rfl, rfl⟩
set_option maxRecDepth 100000 in
theorem refOpen_short (b o : Nat) (n c : Nat) (x0 x1 : UInt8) (l : List UInt8) (w : World) (hA : Bs w (some ⟨b, o, none⟩) n (x0 :: x1 :: l)) (hn : 6 ≤ n) (hc : n ≤ c) (hc2 : c ≤ 9223372036854775807)
    (hk : n < 6 + (x0.toNat + x1.toNat * 256)) :
    Calls Try.prog 89 #[.slice (some ⟨b, o, none⟩) n c] w fun e w' => e = .returned (.tuple #[.slice none 0 0, .int .i64 0, .int .i64 8]) ∧ ∃ d, w' = w.drewN d := by
  have h0 : w.cell? ⟨b, o, none⟩ = some (.int .u8 (x0.toNat : Int)) := hA.cellAt (k := 0) (by simp)
  have h1 : w.cell? ⟨b, o + 1, none⟩ = some (.int .u8 (x1.toNat : Int)) := hA.cellAt (k := 1) (by simp)
  have hn0 : 0 < n := by omega
  have hn1 : (1 : Int) < n := by omega
  have hb0 := ZS x0
  have hb1 := ZS x1
  have hle : (x0.toNat : Int) + 256 * (x1.toNat : Int) = ((x0.toNat + x1.toNat * 256 : Nat) : Int) := by omega
  have hwr : IntKind.i64.wrap ((x0.toNat : Int) + 256 * (x1.toNat : Int)) = (x0.toNat : Int) + 256 * (x1.toNat : Int) := IntWalk.i64_in _ (by omega)
  have hwq : IntKind.i64.wrap (256 * (x1.toNat : Int)) = 256 * (x1.toNat : Int) := IntWalk.i64_in _ (by omega)
  generalize x0.toNat + x1.toNat * 256 = k at hle hk
  go_enter Try.func89, Try.ntmps89
  go_wp2
  go_quiet (fail)
  go_wp2
  go_ret3
  exact ⟨rfl, _, rfl⟩
set_option maxRecDepth 100000 in
theorem refOpen_any (b o : Nat) (n c : Nat) (x0 x1 x2 x3 x4 x5 : UInt8) (l m : List UInt8) (k s : Nat) (w : World) (hA : Bs w (some ⟨b, o, none⟩) n (x0 :: x1 :: x2 :: x3 :: x4 :: x5 :: l)) (hc : n ≤ c) (hc2 : c ≤ 9223372036854775807)
    (hk : x0.toNat + x1.toNat * 256 = k) (hkn : 6 + k ≤ n) (hs : x2.toNat + x3.toNat * 256 + x4.toNat * 65536 + x5.toNat * 16777216 = s) (hm : l.take k = m) (hq : (crc m).toNat = s) :
    Calls Try.prog 89 #[.slice (some ⟨b, o, none⟩) n c] w fun e w' => ∃ v, e = .returned (.tuple #[v, .int .i64 ((6 + k : Nat) : Int), .int .i64 0]) ∧ w'.ownsRow w.heap.size 5 1 v k (bv m) ∧ Below w.heap.size w w' := by
  obtain ⟨i0, hi0, hz0, hz1, hz2⟩ := info_parts byteInfo
  have h0 : w.cell? ⟨b, o, none⟩ = some (.int .u8 (x0.toNat : Int)) := hA.cellAt (k := 0) (by simp)
  have h1 : w.cell? ⟨b, o + 1, none⟩ = some (.int .u8 (x1.toNat : Int)) := hA.cellAt (k := 1) (by simp)
  have h2 : w.cell? ⟨b, o + 2, none⟩ = some (.int .u8 (x2.toNat : Int)) := hA.cellAt (k := 2) (by simp)
  have h3 : w.cell? ⟨b, o + 3, none⟩ = some (.int .u8 (x3.toNat : Int)) := hA.cellAt (k := 3) (by simp)
  have h4 : w.cell? ⟨b, o + 4, none⟩ = some (.int .u8 (x4.toNat : Int)) := hA.cellAt (k := 4) (by simp)
  have h5 : w.cell? ⟨b, o + 5, none⟩ = some (.int .u8 (x5.toNat : Int)) := hA.cellAt (k := 5) (by simp)
  have hM := hA.mid_ (j := 6) (k := 6 + k) (cap := c) (by omega) hkn hc
  have hMl : ((x0 :: x1 :: x2 :: x3 :: x4 :: x5 :: l).take (6 + k)).drop 6 = m := by
    rw [← hm, List.drop_take]; simp
  rw [hMl, Nat.add_sub_cancel_left] at hM
  clear hMl hm
  have hn0 : 0 < n := by omega
  have hn1 : (1 : Int) < n := by omega
  have hn2 : (2 : Int) < n := by omega
  have hn3 : (3 : Int) < n := by omega
  have hn4 : (4 : Int) < n := by omega
  have hn5 : (5 : Int) < n := by omega
  have hb0 := ZS x0
  have hb1 := ZS x1
  have hb2 := ZS x2
  have hb3 := ZS x3
  have hb4 := ZS x4
  have hb5 := ZS x5
  have w2 : IntKind.u32.wrap (x2.toNat : Int) = x2.toNat := IntWalk.u32_in _ (by omega)
  have w3 : IntKind.u32.wrap (x3.toNat : Int) = x3.toNat := IntWalk.u32_in _ (by omega)
  have w4 : IntKind.u32.wrap (x4.toNat : Int) = x4.toNat := IntWalk.u32_in _ (by omega)
  have w5 : IntKind.u32.wrap (x5.toNat : Int) = x5.toNat := IntWalk.u32_in _ (by omega)
  have v3 : IntKind.u32.wrap ((x3.toNat : Int) * 256) = x3.toNat * 256 := IntWalk.u32_in _ (by omega)
  have v4 : IntKind.u32.wrap ((x4.toNat : Int) * 65536) = x4.toNat * 65536 := IntWalk.u32_in _ (by omega)
  have v5 : IntKind.u32.wrap ((x5.toNat : Int) * 16777216) = x5.toNat * 16777216 := IntWalk.u32_in _ (by omega)
  have hle : (x0.toNat : Int) + 256 * (x1.toNat : Int) = ((x0.toNat + x1.toNat * 256 : Nat) : Int) := by omega
  have hwr : IntKind.i64.wrap ((x0.toNat : Int) + 256 * (x1.toNat : Int)) = (x0.toNat : Int) + 256 * (x1.toNat : Int) := IntWalk.i64_in _ (by omega)
  have hwq : IntKind.i64.wrap (256 * (x1.toNat : Int)) = 256 * (x1.toNat : Int) := IntWalk.i64_in _ (by omega)
  have hl4 := le4 x2 x3 x4 x5
  rw [hk] at hle
  rw [hs, ← hq] at hl4
  have hkl : k ≤ 65535 := by omega
  clear hk hs hq hA
  go_enter Try.func89, Try.ntmps89
  go_wp2
  go_quiet (fail)
  go_wp2
  · have hc6 : c = 6 := by assumption
    rw [if_pos hc6] at hM
    go_quiet ((go_at_call 90; exact Xo (XP _ _ _ m _ hM (by omega))))
    go_wp2_with (at_builtin; refine YB _ rfl (.tmp 54) (.tmp 55) 32 rfl w.heap.size 5 i0 (.int .u8 0) 1 Try.underlying32 hi0 hz0 hz1 hz2 rfl (.slice (some ⟨w.heap.size, 0, none⟩) 0 0) 0 [] (by rfl) (by exact World.ownsRow_made _ #[] 0 (Nat.le_refl _) (by simp [maxLen]) rfl) _ k _ (bv m) (by rfl) (by exact Bs.alloc hM _) (WH m) (by omega) (by simp only [maxLen]; omega) (by simp) ?_; intro v2 w2 hown2 hg2 hat2)
    go_ret3
    rw [Nat.zero_add, List.nil_append] at hown2
    refine ⟨v2, rfl, hown2, ((Yb (Below.refl _ w) _).alloc (by simp) _).grown hg2 (by simp) (by simp [Value.ownBlock])⟩
  · have hc6 : ¬ c = 6 := by assumption
    rw [if_neg hc6] at hM
    simp only [Option.map_some, Addr.add_lit] at hM
    go_quiet ((go_at_call 90; exact Xo (XP _ _ _ m _ hM (by omega))))
    go_wp2_with (at_builtin; refine YB _ rfl (.tmp 54) (.tmp 55) 32 rfl w.heap.size 5 i0 (.int .u8 0) 1 Try.underlying32 hi0 hz0 hz1 hz2 rfl (.slice (some ⟨w.heap.size, 0, none⟩) 0 0) 0 [] (by rfl) (by exact World.ownsRow_made _ #[] 0 (Nat.le_refl _) (by simp [maxLen]) rfl) _ k _ (bv m) (by rfl) (by exact Bs.alloc hM _) (WH m) (by omega) (by simp only [maxLen]; omega) (by simp) ?_; intro v2 w2 hown2 hg2 hat2)
    go_ret3
    rw [Nat.zero_add, List.nil_append] at hown2
    refine ⟨v2, rfl, hown2, ((Yb (Below.refl _ w) _).alloc (by simp) _).grown hg2 (by simp) (by simp [Value.ownBlock])⟩
set_option maxRecDepth 100000 in
theorem refOpen_bad (b o : Nat) (n c : Nat) (x0 x1 x2 x3 x4 x5 : UInt8) (l m : List UInt8) (k s : Nat) (w : World) (hA : Bs w (some ⟨b, o, none⟩) n (x0 :: x1 :: x2 :: x3 :: x4 :: x5 :: l)) (hc : n ≤ c) (hc2 : c ≤ 9223372036854775807)
    (hk : x0.toNat + x1.toNat * 256 = k) (hkn : 6 + k ≤ n) (hs : x2.toNat + x3.toNat * 256 + x4.toNat * 65536 + x5.toNat * 16777216 = s) (hm : l.take k = m) (hq : (crc m).toNat ≠ s) :
    Calls Try.prog 89 #[.slice (some ⟨b, o, none⟩) n c] w fun e w' => e = .returned (.tuple #[.slice none 0 0, .int .i64 0, .int .i64 10]) ∧ Below w.heap.size w w' := by
  have h0 : w.cell? ⟨b, o, none⟩ = some (.int .u8 (x0.toNat : Int)) := hA.cellAt (k := 0) (by simp)
  have h1 : w.cell? ⟨b, o + 1, none⟩ = some (.int .u8 (x1.toNat : Int)) := hA.cellAt (k := 1) (by simp)
  have h2 : w.cell? ⟨b, o + 2, none⟩ = some (.int .u8 (x2.toNat : Int)) := hA.cellAt (k := 2) (by simp)
  have h3 : w.cell? ⟨b, o + 3, none⟩ = some (.int .u8 (x3.toNat : Int)) := hA.cellAt (k := 3) (by simp)
  have h4 : w.cell? ⟨b, o + 4, none⟩ = some (.int .u8 (x4.toNat : Int)) := hA.cellAt (k := 4) (by simp)
  have h5 : w.cell? ⟨b, o + 5, none⟩ = some (.int .u8 (x5.toNat : Int)) := hA.cellAt (k := 5) (by simp)
  have hM := hA.mid_ (j := 6) (k := 6 + k) (cap := c) (by omega) hkn hc
  have hMl : ((x0 :: x1 :: x2 :: x3 :: x4 :: x5 :: l).take (6 + k)).drop 6 = m := by
    rw [← hm, List.drop_take]; simp
  rw [hMl, Nat.add_sub_cancel_left] at hM
  clear hMl hm
  have hn0 : 0 < n := by omega
  have hn1 : (1 : Int) < n := by omega
  have hn2 : (2 : Int) < n := by omega
  have hn3 : (3 : Int) < n := by omega
  have hn4 : (4 : Int) < n := by omega
  have hn5 : (5 : Int) < n := by omega
  have hb0 := ZS x0
  have hb1 := ZS x1
  have hb2 := ZS x2
  have hb3 := ZS x3
  have hb4 := ZS x4
  have hb5 := ZS x5
  have w2 : IntKind.u32.wrap (x2.toNat : Int) = x2.toNat := IntWalk.u32_in _ (by omega)
  have w3 : IntKind.u32.wrap (x3.toNat : Int) = x3.toNat := IntWalk.u32_in _ (by omega)
  have w4 : IntKind.u32.wrap (x4.toNat : Int) = x4.toNat := IntWalk.u32_in _ (by omega)
  have w5 : IntKind.u32.wrap (x5.toNat : Int) = x5.toNat := IntWalk.u32_in _ (by omega)
  have v3 : IntKind.u32.wrap ((x3.toNat : Int) * 256) = x3.toNat * 256 := IntWalk.u32_in _ (by omega)
  have v4 : IntKind.u32.wrap ((x4.toNat : Int) * 65536) = x4.toNat * 65536 := IntWalk.u32_in _ (by omega)
  have v5 : IntKind.u32.wrap ((x5.toNat : Int) * 16777216) = x5.toNat * 16777216 := IntWalk.u32_in _ (by omega)
  have hle : (x0.toNat : Int) + 256 * (x1.toNat : Int) = ((x0.toNat + x1.toNat * 256 : Nat) : Int) := by omega
  have hwr : IntKind.i64.wrap ((x0.toNat : Int) + 256 * (x1.toNat : Int)) = (x0.toNat : Int) + 256 * (x1.toNat : Int) := IntWalk.i64_in _ (by omega)
  have hwq : IntKind.i64.wrap (256 * (x1.toNat : Int)) = 256 * (x1.toNat : Int) := IntWalk.i64_in _ (by omega)
  have hl4 := le4 x2 x3 x4 x5
  rw [hk] at hle
  rw [hs] at hl4
  have hkl : k ≤ 65535 := by omega
  have hne : (((crc m).toNat : Int) != (s : Int)) = true := by
    rw [bne_iff_ne]; omega
  clear hk hs hq hA
  go_enter Try.func89, Try.ntmps89
  go_wp2
  go_quiet (fail)
  go_wp2
  · have hc6 : c = 6 := by assumption
    rw [if_pos hc6] at hM
    go_quiet ((go_at_call 90; exact Xo (XP _ _ _ m _ hM (by omega))))
    go_wp2
    go_ret3
    refine ⟨rfl, Yb (Yb (Below.refl _ w) _) _⟩
  · have hc6 : ¬ c = 6 := by assumption
    rw [if_neg hc6] at hM
    simp only [Option.map_some, Addr.add_lit] at hM
    go_quiet ((go_at_call 90; exact Xo (XP _ _ _ m _ hM (by omega))))
    go_wp2
    go_ret3
    refine ⟨rfl, Yb (Yb (Below.refl _ w) _) _⟩
set_option maxRecDepth 100000 in
theorem refOpen_full (A : Option Addr) (n c : Nat) (l : List UInt8) (w : World) (hA : Bs w A n l) (hc : n ≤ c) (hc2 : c ≤ 9223372036854775807) :
    Calls Try.prog 89 #[.slice A n c] w fun e w' => ∃ v, e = .returned (.tuple #[v, .int .i64 ((opened l).2.1 : Int), .int .i64 ((opened l).2.2 : Int)]) ∧
      w'.ownsRow w.heap.size 5 1 v (opened l).1.length (bv (opened l).1) ∧ Below w.heap.size w w' := by
  by_cases h6 : n < 6
  · refine Calls.mono (refOpen_cut A n c w h6) ?_
    rintro e w' ⟨rfl, rfl⟩
    have : opened l = ([], 0, 8) := by unfold opened; rw [if_pos (by rw [hA.len]; exact h6)]
    rw [this]
    exact ⟨_, rfl, World.ownsRow_nil _ _ _ _, Below.refl _ _⟩
  · obtain ⟨b, o, rfl⟩ := hA.some_ (by omega)
    have hl := hA.len
    match l, hA, hl with
    | x0 :: x1 :: x2 :: x3 :: x4 :: x5 :: t, hA, hl =>
      have e2 : le ((x0 :: x1 :: x2 :: x3 :: x4 :: x5 :: t).take 2) = x0.toNat + x1.toNat * 256 := by simp [le]; omega
      have e4 : le (((x0 :: x1 :: x2 :: x3 :: x4 :: x5 :: t).drop 2).take 4) = x2.toNat + x3.toNat * 256 + x4.toNat * 65536 + x5.toNat * 16777216 := by simp [le]; omega
      have ed : (x0 :: x1 :: x2 :: x3 :: x4 :: x5 :: t).drop 6 = t := rfl
      by_cases hk : n < 6 + (x0.toNat + x1.toNat * 256)
      · refine Calls.mono (refOpen_short b o n c x0 x1 _ w hA (by omega) hc hc2 hk) ?_
        rintro e w' ⟨rfl, d, rfl⟩
        have : opened (x0 :: x1 :: x2 :: x3 :: x4 :: x5 :: t) = ([], 0, 8) := by
          unfold opened
          rw [if_neg (by omega), e2, if_pos (by omega)]
        rw [this]
        exact ⟨_, rfl, World.ownsRow_nil _ _ _ _, Yb (Below.refl _ _) _⟩
      · by_cases hq : (crc (t.take (x0.toNat + x1.toNat * 256))).toNat = x2.toNat + x3.toNat * 256 + x4.toNat * 65536 + x5.toNat * 16777216
        · refine Calls.mono (refOpen_any b o n c x0 x1 x2 x3 x4 x5 t _ _ _ w hA hc hc2 rfl (by omega) rfl rfl hq) ?_
          rintro e w' ⟨v, rfl, hown, hb⟩
          have : opened (x0 :: x1 :: x2 :: x3 :: x4 :: x5 :: t) = (t.take (x0.toNat + x1.toNat * 256), 6 + (x0.toNat + x1.toNat * 256), 0) := by
            unfold opened
            rw [if_neg (by omega), e2, if_neg (by omega), ed, e4, if_neg (by omega)]
          rw [this]
          refine ⟨v, rfl, ?_, hb⟩
          have hll : (t.take (x0.toNat + x1.toNat * 256)).length = x0.toNat + x1.toNat * 256 := by
            simp only [List.length_cons] at hl
            rw [List.length_take]; omega
          dsimp only
          rw [hll]
          exact hown
        · refine Calls.mono (refOpen_bad b o n c x0 x1 x2 x3 x4 x5 t _ _ _ w hA hc hc2 rfl (by omega) rfl rfl hq) ?_
          rintro e w' ⟨rfl, hb⟩
          have : opened (x0 :: x1 :: x2 :: x3 :: x4 :: x5 :: t) = ([], 0, 10) := by
            unfold opened
            rw [if_neg (by omega), e2, if_neg (by omega), ed, e4, if_pos hq]
          rw [this]
          exact ⟨_, rfl, World.ownsRow_nil _ _ _ _, hb⟩
    | [], _, hl => simp at hl; omega
    | [_], _, hl => simp at hl; omega
    | [_, _], _, hl => simp at hl; omega
    | [_, _, _], _, hl => simp at hl; omega
    | [_, _, _, _], _, hl => simp at hl; omega
    | [_, _, _, _, _], _, hl => simp at hl; omega
end Go.Proofs.Ytkncomkncfcecaa
