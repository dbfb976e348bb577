/- crc.Open and the reference's Open: what each returns. The reference's Seal and Open: what each returns. -/
import Derived.Test.YtcpifcdndhhmgaaChecked
import Derived.Test.YtcpifcdndhhmgaaCrcSum
import Derived.Test.YtcpifcdndhhmgaaAppendK
import Derived.Test.YtcpifcdndhhmgaaSealPlain
import Derived.Deep.QuietTactic
import Derived.BigQuiet
import Derived.Deep.RegionHeld3
set_option linter.unusedVariables false
set_option linter.unusedSimpArgs false
namespace Go.Proofs.Ytcpifcdndhhmgaa
open Go.RowKit

theorem open_cut (A : Option Addr) (n c : Nat) (w : World) (hn : n < 6) :
    Calls Try.prog 79 #[.slice A n c] w fun e w' => e = .returned (.tuple #[.slice none 0 0, .int .i64 0, .int .i64 8]) ∧ w = w' := by
  go_enter Try.func79, Try.ntmps79
  go_wp2
  go_ret3
  exact ⟨rfl, rfl⟩

theorem le2 (x0 x1 : UInt8) : bits .or .i64 (x0.toNat : Int) ((x1.toNat : Int) * 256) = ((x0.toNat + x1.toNat * 256 : Nat) : Int) := by
  have h0 := byte_lt x0
  have h1 := byte_lt x1
  have := i64_or_join x0.toNat x1.toNat 8 (by omega) (by omega)
  simpa using this
theorem le4 (x2 x3 x4 x5 : UInt8) : bits .or .u32 (bits .or .u32 (bits .or .u32 (x2.toNat : Int) ((x3.toNat : Int) * 256)) ((x4.toNat : Int) * 65536)) ((x5.toNat : Int) * 16777216) =
    ((x2.toNat + x3.toNat * 256 + x4.toNat * 65536 + x5.toNat * 16777216 : Nat) : Int) := by
  have h2 := byte_lt x2
  have h3 := byte_lt x3
  have h4 := byte_lt x4
  have h5 := byte_lt x5
  have e1 := u32_or_join x2.toNat x3.toNat 8 (by omega) (by omega)
  have e2 := u32_or_join (x2.toNat + x3.toNat * 2 ^ 8) x4.toNat 16 (by omega) (by omega)
  have e3 := u32_or_join (x2.toNat + x3.toNat * 2 ^ 8 + x4.toNat * 2 ^ 16) x5.toNat 24 (by omega) (by omega)
  rw [← e2, ← e1] at e3
  simpa using e3

set_option maxRecDepth 100000 in
theorem open_short (b o : Nat) (n c : Nat) (x0 x1 : UInt8) (l : List UInt8) (w : World) (hA : Bs w (some ⟨b, o, none⟩) n (x0 :: x1 :: l)) (hn : 6 ≤ n) (hc : n ≤ c) (hc2 : c ≤ 9223372036854775807)
    (hk : n < 6 + (x0.toNat + x1.toNat * 256)) :
    Calls Try.prog 79 #[.slice (some ⟨b, o, none⟩) n c] w fun e w' => e = .returned (.tuple #[.slice none 0 0, .int .i64 0, .int .i64 8]) ∧ ∃ d, w' = w.drewN d := by
  have h0 : w.cell? ⟨b, o, none⟩ = some (.int .u8 (x0.toNat : Int)) := hA.cellAt (k := 0) (by simp)
  have h1 : w.cell? ⟨b, o + 1, none⟩ = some (.int .u8 (x1.toNat : Int)) := hA.cellAt (k := 1) (by simp)
  have hn0 : 0 < n := by omega
  have hn1 : (1 : Int) < n := by omega
  have hb0 := byte_lt x0
  have hb1 := byte_lt x1
  have hle := le2 x0 x1
  generalize x0.toNat + x1.toNat * 256 = k at hle hk
  go_enter Try.func79, Try.ntmps79
  go_wp2
  go_quiet (fail)
  go_wp2
  go_ret3
  exact ⟨rfl, _, rfl⟩

set_option maxRecDepth 100000 in
theorem open_any (b o : Nat) (n c : Nat) (x0 x1 x2 x3 x4 x5 : UInt8) (l m : List UInt8) (k s : Nat) (w : World) (hA : Bs w (some ⟨b, o, none⟩) n (x0 :: x1 :: x2 :: x3 :: x4 :: x5 :: l)) (hc : n ≤ c) (hc2 : c ≤ 9223372036854775807)
    (hk : x0.toNat + x1.toNat * 256 = k) (hkn : 6 + k ≤ n) (hs : x2.toNat + x3.toNat * 256 + x4.toNat * 65536 + x5.toNat * 16777216 = s) (hm : l.take k = m) (hq : (crc m).toNat = s) :
    Calls Try.prog 79 #[.slice (some ⟨b, o, none⟩) n c] w fun e w' => ∃ v, e = .returned (.tuple #[v, .int .i64 ((6 + k : Nat) : Int), .int .i64 0]) ∧ w'.ownsRow w.heap.size 5 1 v k (bv m) ∧ Below w.heap.size w w' := by
  have h0 : w.cell? ⟨b, o, none⟩ = some (.int .u8 (x0.toNat : Int)) := hA.cellAt (k := 0) (by simp)
  have h1 : w.cell? ⟨b, o + 1, none⟩ = some (.int .u8 (x1.toNat : Int)) := hA.cellAt (k := 1) (by simp)
  have h2 : w.cell? ⟨b, o + 2, none⟩ = some (.int .u8 (x2.toNat : Int)) := hA.cellAt (k := 2) (by simp)
  have h3 : w.cell? ⟨b, o + 3, none⟩ = some (.int .u8 (x3.toNat : Int)) := hA.cellAt (k := 3) (by simp)
  have h4 : w.cell? ⟨b, o + 4, none⟩ = some (.int .u8 (x4.toNat : Int)) := hA.cellAt (k := 4) (by simp)
  have h5 : w.cell? ⟨b, o + 5, none⟩ = some (.int .u8 (x5.toNat : Int)) := hA.cellAt (k := 5) (by simp)
  have hM := hA.mid_ (j := 6) (k := 6 + k) (cap := c) (by omega) hkn hc
  have hMl : ((x0 :: x1 :: x2 :: x3 :: x4 :: x5 :: l).take (6 + k)).drop 6 = m := by
    rw [← hm, List.drop_take]; simp
  rw [hMl, Nat.add_sub_cancel_left] at hM
  clear hMl hm
  have hn0 : 0 < n := by omega
  have hn1 : (1 : Int) < n := by omega
  have hn2 : (2 : Int) < n := by omega
  have hn3 : (3 : Int) < n := by omega
  have hn4 : (4 : Int) < n := by omega
  have hn5 : (5 : Int) < n := by omega
  have hb0 := byte_lt x0
  have hb1 := byte_lt x1
  have hb2 := byte_lt x2
  have hb3 := byte_lt x3
  have hb4 := byte_lt x4
  have hb5 := byte_lt x5
  have w2 : IntKind.u32.wrap (x2.toNat : Int) = x2.toNat := IntWalk.u32_in _ (by omega)
  have w3 : IntKind.u32.wrap (x3.toNat : Int) = x3.toNat := IntWalk.u32_in _ (by omega)
  have w4 : IntKind.u32.wrap (x4.toNat : Int) = x4.toNat := IntWalk.u32_in _ (by omega)
  have w5 : IntKind.u32.wrap (x5.toNat : Int) = x5.toNat := IntWalk.u32_in _ (by omega)
  have v3 : IntKind.u32.wrap ((x3.toNat : Int) * 256) = x3.toNat * 256 := IntWalk.u32_in _ (by omega)
  have v4 : IntKind.u32.wrap ((x4.toNat : Int) * 65536) = x4.toNat * 65536 := IntWalk.u32_in _ (by omega)
  have v5 : IntKind.u32.wrap ((x5.toNat : Int) * 16777216) = x5.toNat * 16777216 := IntWalk.u32_in _ (by omega)
  have hle := le2 x0 x1
  have hl4 := le4 x2 x3 x4 x5
  rw [hk] at hle
  rw [hs, ← hq] at hl4
  have hkl : k ≤ 65535 := by omega
  clear hk hs hq hA
  go_enter Try.func79, Try.ntmps79
  go_wp2
  go_quiet (fail)
  go_wp2
  · have hc6 : c = 6 := by assumption
    rw [if_pos hc6] at hM
    go_region_held3 (fun w' => w'.cell? ⟨b, o + 2, none⟩ = some (.int .u8 (x2.toNat : Int)) ∧ w'.cell? ⟨b, o + 3, none⟩ = some (.int .u8 (x3.toNat : Int)) ∧ w'.cell? ⟨b, o + 4, none⟩ = some (.int .u8 (x4.toNat : Int)) ∧ w'.cell? ⟨b, o + 5, none⟩ = some (.int .u8 (x5.toNat : Int))) (go_keep)
      ((go_at_call 90; refine Calls.mono (crcSum1 _ _ _ m _ _ (by rfl) (by exact hM) (by omega) (by omega)) ?_; rintro e w1 ⟨rfl, rfl⟩))
    go_wp2_with (go_at_call 63; refine Calls.mono (clone_any _ _ _ m _ (Bs.alloc hM _) (by omega)) ?_; rintro e w2 ⟨v2, rfl, hown2, hb2⟩)
    go_ret3
    refine ⟨v2, rfl, ownsRow_base hown2 (by simp), below_then ((below_drewN' (Below.refl _ w) _).alloc (by simp) _) hb2 (by simp)⟩
  · have hc6 : ¬ c = 6 := by assumption
    rw [if_neg hc6] at hM
    simp only [Option.map_some, Addr.add_lit] at hM
    go_region_held3 (fun w' => w'.cell? ⟨b, o + 2, none⟩ = some (.int .u8 (x2.toNat : Int)) ∧ w'.cell? ⟨b, o + 3, none⟩ = some (.int .u8 (x3.toNat : Int)) ∧ w'.cell? ⟨b, o + 4, none⟩ = some (.int .u8 (x4.toNat : Int)) ∧ w'.cell? ⟨b, o + 5, none⟩ = some (.int .u8 (x5.toNat : Int))) (go_keep)
      ((go_at_call 90; refine Calls.mono (crcSum1 _ _ _ m _ _ (by rfl) (by exact hM) (by omega) (by omega)) ?_; rintro e w1 ⟨rfl, rfl⟩))
    go_wp2_with (go_at_call 63; refine Calls.mono (clone_any _ _ _ m _ (Bs.alloc hM _) (by omega)) ?_; rintro e w2 ⟨v2, rfl, hown2, hb2⟩)
    go_ret3
    refine ⟨v2, rfl, ownsRow_base hown2 (by simp), below_then ((below_drewN' (Below.refl _ w) _).alloc (by simp) _) hb2 (by simp)⟩

set_option maxRecDepth 100000 in
theorem open_bad (b o : Nat) (n c : Nat) (x0 x1 x2 x3 x4 x5 : UInt8) (l m : List UInt8) (k s : Nat) (w : World) (hA : Bs w (some ⟨b, o, none⟩) n (x0 :: x1 :: x2 :: x3 :: x4 :: x5 :: l)) (hc : n ≤ c) (hc2 : c ≤ 9223372036854775807)
    (hk : x0.toNat + x1.toNat * 256 = k) (hkn : 6 + k ≤ n) (hs : x2.toNat + x3.toNat * 256 + x4.toNat * 65536 + x5.toNat * 16777216 = s) (hm : l.take k = m) (hq : (crc m).toNat ≠ s) :
    Calls Try.prog 79 #[.slice (some ⟨b, o, none⟩) n c] w fun e w' => e = .returned (.tuple #[.slice none 0 0, .int .i64 0, .int .i64 10]) ∧ Below w.heap.size w w' := by
  have h0 : w.cell? ⟨b, o, none⟩ = some (.int .u8 (x0.toNat : Int)) := hA.cellAt (k := 0) (by simp)
  have h1 : w.cell? ⟨b, o + 1, none⟩ = some (.int .u8 (x1.toNat : Int)) := hA.cellAt (k := 1) (by simp)
  have h2 : w.cell? ⟨b, o + 2, none⟩ = some (.int .u8 (x2.toNat : Int)) := hA.cellAt (k := 2) (by simp)
  have h3 : w.cell? ⟨b, o + 3, none⟩ = some (.int .u8 (x3.toNat : Int)) := hA.cellAt (k := 3) (by simp)
  have h4 : w.cell? ⟨b, o + 4, none⟩ = some (.int .u8 (x4.toNat : Int)) := hA.cellAt (k := 4) (by simp)
  have h5 : w.cell? ⟨b, o + 5, none⟩ = some (.int .u8 (x5.toNat : Int)) := hA.cellAt (k := 5) (by simp)
  have hM := hA.mid_ (j := 6) (k := 6 + k) (cap := c) (by omega) hkn hc
  have hMl : ((x0 :: x1 :: x2 :: x3 :: x4 :: x5 :: l).take (6 + k)).drop 6 = m := by
    rw [← hm, List.drop_take]; simp
  rw [hMl, Nat.add_sub_cancel_left] at hM
  clear hMl hm
  have hn0 : 0 < n := by omega
  have hn1 : (1 : Int) < n := by omega
  have hn2 : (2 : Int) < n := by omega
  have hn3 : (3 : Int) < n := by omega
  have hn4 : (4 : Int) < n := by omega
  have hn5 : (5 : Int) < n := by omega
  have hb0 := byte_lt x0
  have hb1 := byte_lt x1
  have hb2 := byte_lt x2
  have hb3 := byte_lt x3
  have hb4 := byte_lt x4
  have hb5 := byte_lt x5
  have w2 : IntKind.u32.wrap (x2.toNat : Int) = x2.toNat := IntWalk.u32_in _ (by omega)
  have w3 : IntKind.u32.wrap (x3.toNat : Int) = x3.toNat := IntWalk.u32_in _ (by omega)
  have w4 : IntKind.u32.wrap (x4.toNat : Int) = x4.toNat := IntWalk.u32_in _ (by omega)
  have w5 : IntKind.u32.wrap (x5.toNat : Int) = x5.toNat := IntWalk.u32_in _ (by omega)
  have v3 : IntKind.u32.wrap ((x3.toNat : Int) * 256) = x3.toNat * 256 := IntWalk.u32_in _ (by omega)
  have v4 : IntKind.u32.wrap ((x4.toNat : Int) * 65536) = x4.toNat * 65536 := IntWalk.u32_in _ (by omega)
  have v5 : IntKind.u32.wrap ((x5.toNat : Int) * 16777216) = x5.toNat * 16777216 := IntWalk.u32_in _ (by omega)
  have hle := le2 x0 x1
  have hl4 := le4 x2 x3 x4 x5
  rw [hk] at hle
  rw [hs] at hl4
  have hkl : k ≤ 65535 := by omega
  have hne : (((crc m).toNat : Int) != (s : Int)) = true := by
    rw [bne_iff_ne]; omega
  clear hk hs hq hA
  go_enter Try.func79, Try.ntmps79
  go_wp2
  go_quiet (fail)
  go_wp2
  · have hc6 : c = 6 := by assumption
    rw [if_pos hc6] at hM
    go_region_held3 (fun w' => w'.cell? ⟨b, o + 2, none⟩ = some (.int .u8 (x2.toNat : Int)) ∧ w'.cell? ⟨b, o + 3, none⟩ = some (.int .u8 (x3.toNat : Int)) ∧ w'.cell? ⟨b, o + 4, none⟩ = some (.int .u8 (x4.toNat : Int)) ∧ w'.cell? ⟨b, o + 5, none⟩ = some (.int .u8 (x5.toNat : Int))) (go_keep)
      ((go_at_call 90; refine Calls.mono (crcSum1 _ _ _ m _ _ (by rfl) (by exact hM) (by omega) (by omega)) ?_; rintro e w1 ⟨rfl, rfl⟩))
    go_wp2
    go_ret3
    refine ⟨rfl, (below_drewN' (Below.refl _ w) _).alloc (by simp) _⟩
  · have hc6 : ¬ c = 6 := by assumption
    rw [if_neg hc6] at hM
    simp only [Option.map_some, Addr.add_lit] at hM
    go_region_held3 (fun w' => w'.cell? ⟨b, o + 2, none⟩ = some (.int .u8 (x2.toNat : Int)) ∧ w'.cell? ⟨b, o + 3, none⟩ = some (.int .u8 (x3.toNat : Int)) ∧ w'.cell? ⟨b, o + 4, none⟩ = some (.int .u8 (x4.toNat : Int)) ∧ w'.cell? ⟨b, o + 5, none⟩ = some (.int .u8 (x5.toNat : Int))) (go_keep)
      ((go_at_call 90; refine Calls.mono (crcSum1 _ _ _ m _ _ (by rfl) (by exact hM) (by omega) (by omega)) ?_; rintro e w1 ⟨rfl, rfl⟩))
    go_wp2
    go_ret3
    refine ⟨rfl, (below_drewN' (Below.refl _ w) _).alloc (by simp) _⟩

/-- Open, whatever the bytes -/
theorem open_full (A : Option Addr) (n c : Nat) (l : List UInt8) (w : World) (hA : Bs w A n l) (hc : n ≤ c) (hc2 : c ≤ 9223372036854775807) :
    Calls Try.prog 79 #[.slice A n c] w fun e w' => ∃ v, e = .returned (.tuple #[v, .int .i64 ((opened l).2.1 : Int), .int .i64 ((opened l).2.2 : Int)]) ∧
      w'.ownsRow w.heap.size 5 1 v (opened l).1.length (bv (opened l).1) ∧ Below w.heap.size w w' := by
  by_cases h6 : n < 6
  · refine Calls.mono (open_cut A n c w h6) ?_
    rintro e w' ⟨rfl, rfl⟩
    have : opened l = ([], 0, 8) := by unfold opened; rw [if_pos (by rw [hA.len]; exact h6)]
    rw [this]
    exact ⟨_, rfl, World.ownsRow_nil _ _ _ _, Below.refl _ _⟩
  · obtain ⟨b, o, rfl⟩ := hA.some_ (by omega)
    have hl := hA.len
    match l, hA, hl with
    | x0 :: x1 :: x2 :: x3 :: x4 :: x5 :: t, hA, hl =>
      have e2 : le ((x0 :: x1 :: x2 :: x3 :: x4 :: x5 :: t).take 2) = x0.toNat + x1.toNat * 256 := by simp [le]; omega
      have e4 : le (((x0 :: x1 :: x2 :: x3 :: x4 :: x5 :: t).drop 2).take 4) = x2.toNat + x3.toNat * 256 + x4.toNat * 65536 + x5.toNat * 16777216 := by simp [le]; omega
      have ed : (x0 :: x1 :: x2 :: x3 :: x4 :: x5 :: t).drop 6 = t := rfl
      by_cases hk : n < 6 + (x0.toNat + x1.toNat * 256)
      · refine Calls.mono (open_short b o n c x0 x1 _ w hA (by omega) hc hc2 hk) ?_
        rintro e w' ⟨rfl, d, rfl⟩
        have : opened (x0 :: x1 :: x2 :: x3 :: x4 :: x5 :: t) = ([], 0, 8) := by
          unfold opened
          rw [if_neg (by omega), e2, if_pos (by omega)]
        rw [this]
        exact ⟨_, rfl, World.ownsRow_nil _ _ _ _, below_drewN' (Below.refl _ _) _⟩
      · by_cases hq : (crc (t.take (x0.toNat + x1.toNat * 256))).toNat = x2.toNat + x3.toNat * 256 + x4.toNat * 65536 + x5.toNat * 16777216
        · refine Calls.mono (open_any b o n c x0 x1 x2 x3 x4 x5 t _ _ _ w hA hc hc2 rfl (by omega) rfl rfl hq) ?_
          rintro e w' ⟨v, rfl, hown, hb⟩
          have : opened (x0 :: x1 :: x2 :: x3 :: x4 :: x5 :: t) = (t.take (x0.toNat + x1.toNat * 256), 6 + (x0.toNat + x1.toNat * 256), 0) := by
            unfold opened
            rw [if_neg (by omega), e2, if_neg (by omega), ed, e4, if_neg (by omega)]
          rw [this]
          refine ⟨v, rfl, ?_, hb⟩
          have hll : (t.take (x0.toNat + x1.toNat * 256)).length = x0.toNat + x1.toNat * 256 := by
            simp only [List.length_cons] at hl
            rw [List.length_take]; omega
          dsimp only
          rw [hll]
          exact hown
        · refine Calls.mono (open_bad b o n c x0 x1 x2 x3 x4 x5 t _ _ _ w hA hc hc2 rfl (by omega) rfl rfl hq) ?_
          rintro e w' ⟨rfl, hb⟩
          have : opened (x0 :: x1 :: x2 :: x3 :: x4 :: x5 :: t) = ([], 0, 10) := by
            unfold opened
            rw [if_neg (by omega), e2, if_neg (by omega), ed, e4, if_pos hq]
          rw [this]
          exact ⟨_, rfl, World.ownsRow_nil _ _ _ _, hb⟩
    | [], _, hl => simp at hl; omega
    | [_], _, hl => simp at hl; omega
    | [_, _], _, hl => simp at hl; omega
    | [_, _, _], _, hl => simp at hl; omega
    | [_, _, _, _], _, hl => simp at hl; omega
    | [_, _, _, _, _], _, hl => simp at hl; omega
end Go.Proofs.Ytcpifcdndhhmgaa
set_option linter.unusedVariables false
set_option linter.unusedSimpArgs false
namespace Go.Proofs.Ytcpifcdndhhmgaa
open Go.RowKit

end Go.Proofs.Ytcpifcdndhhmgaa
