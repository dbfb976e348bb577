/- crc.Sum and the reference's Sum: what each returns is the plain sum; nothing is written. -/
import Derived.Test.YtblidiecahpekaaChecked
import Derived.Test.YtblidiecahpekaaCrcPlain
set_option linter.unusedVariables false
set_option linter.unusedSimpArgs false
namespace Go.Proofs.Ytblidiecahpekaa
open Go.RowKit

set_option maxRecDepth 100000 in
theorem crcSum_any (A : Option Addr) (n c : Nat) (ls : List (List UInt8)) (w : World) (hA : Ps w A n ls) (hn : n ≤ 140737488355328) :
    Calls Try.prog 49 #[.slice A n c] w fun e w' => e = .returned (.int .u32 ((crc ls.flatten).toNat : Int)) ∧ w = w' := by
  go_enter Try.func49, Try.ntmps49
  go_wp2
  go_loop [3, 10] (fun c i => ∃ (k : Nat) (c0 : BitVec 32), k ≤ n ∧ i = .int .i64 k ∧ c = .int .u32 (c0.toNat : Int) ∧ Hid (c0 = crcOn 0xFFFFFFFF#32 (ls.take k).flatten)) (fun _ i => n - (intOf i).toNat)
  case atStart => exact ⟨0, 0xFFFFFFFF#32, Nat.zero_le _, rfl, rfl, rfl⟩
  case round =>
    obtain ⟨k, c0, hk, rfl, rfl, hc0⟩ := hrel
    by_cases hlt : k < n
    · obtain ⟨pb, po, B, m, d, l, rfl, hcell, hB, hm, hd, hs, _⟩ := hA.next hlt
      go_wp2
      go_loop [3, 16] (fun c i => ∃ (j : Nat) (c1 : BitVec 32), j ≤ m ∧ i = .int .i64 j ∧ c = .int .u32 (c1.toNat : Int) ∧ Hid (c1 = crcOn c0 (l.take j))) (fun _ i => m - (intOf i).toNat)
      case atStart => exact ⟨0, c0, Nat.zero_le _, rfl, rfl, rfl⟩
      case round =>
        obtain ⟨j, c1, hj, rfl, rfl, hc1⟩ := hrel
        by_cases hlt2 : j < m
        · obtain ⟨qb, qo, x, rfl, hcell2, hs2, _⟩ := hB.next hlt2
          go_wp2
          go_loop [3, 24] (fun c i => ∃ (t : Nat) (c2 : BitVec 32), t ≤ 8 ∧ i = .int .i64 t ∧ c = .int .u32 (c2.toNat : Int) ∧ Hid (c2 = Nat.repeat crcBit t (c1 ^^^ x.toBitVec.setWidth 32))) (fun _ i => 8 - (intOf i).toNat)
          case atStart => exact ⟨0, _, Nat.zero_le _, rfl, congrArg _ (crcByte_start c1 x), rfl⟩
          case round =>
            obtain ⟨t, c2, ht, rfl, rfl, hc2⟩ := hrel
            by_cases hlt3 : t < 8
            · go_wp2
              go_round
              case rel => exact ⟨t + 1, crcBit c2, by omega, by go_num, congrArg _ (crcBit_code c2), by show _ = _; rw [hc2.out]; rfl⟩
              case measure => simp [intOf]; omega
            · obtain rfl : t = 8 := by omega
              go_wp2
              go_round
              case rel => exact ⟨j + 1, c2, by omega, by go_num, rfl, by show _ = _; rw [hs2.out, crcOn_snoc, hc2.out, hc1.out]; rfl⟩
              case measure => simp [intOf]; omega
        · obtain rfl : j = m := by omega
          go_wp2
          go_round
          case rel => exact ⟨k + 1, c1, by omega, by go_num, rfl, by show _ = _; rw [hs.out, List.flatten_append, crcOn_append, hc1.out, hc0.out, hB.all]; simp [crcOn]⟩
          case measure => simp [intOf]; omega
    · obtain rfl : k = n := by omega
      go_wp2
      go_ret
      refine ⟨ret_int ?_, rfl⟩
      refine (crc_not c0).trans ?_
      rw [hc0.out, hA.all]; rfl

set_option maxRecDepth 100000 in
theorem refSum_any (A : Option Addr) (n c : Nat) (l : List UInt8) (w : World) (hA : Bs w A n l) (hn : n ≤ 140737488355328) :
    Calls Try.prog 55 #[.slice A n c] w fun e w' => e = .returned (.int .u32 ((crc l).toNat : Int)) ∧ w = w' := by
  go_enter Try.func55, Try.ntmps55
  go_wp2
  go_loop [3, 4] (fun c i => ∃ (j : Nat) (c1 : BitVec 32), j ≤ n ∧ i = .int .i64 j ∧ c = .int .u32 (c1.toNat : Int) ∧ Hid (c1 = crcOn 0xFFFFFFFF#32 (l.take j))) (fun _ i => n - (intOf i).toNat)
  case atStart => exact ⟨0, 0xFFFFFFFF#32, Nat.zero_le _, rfl, rfl, rfl⟩
  case round =>
    obtain ⟨j, c1, hj, rfl, rfl, hc1⟩ := hrel
    by_cases hlt2 : j < n
    · obtain ⟨qb, qo, x, rfl, hcell2, hs2, _⟩ := hA.next hlt2
      go_wp2
      go_loop [3, 5] (fun c i => ∃ (t : Nat) (c2 : BitVec 32), t ≤ 8 ∧ i = .int .i64 t ∧ c = .int .u32 (c2.toNat : Int) ∧ Hid (c2 = Nat.repeat crcBit t (c1 ^^^ x.toBitVec.setWidth 32))) (fun _ i => 8 - (intOf i).toNat)
      case atStart => exact ⟨0, _, Nat.zero_le _, rfl, congrArg _ (crcByte_start c1 x), rfl⟩
      case round =>
        obtain ⟨t, c2, ht, rfl, rfl, hc2⟩ := hrel
        by_cases hlt3 : t < 8
        · go_wp2
          all_goals
            go_round
            case rel => exact ⟨t + 1, crcBit c2, by omega, by go_num, congrArg _ (by first | exact crcBit_odd c2 ‹_› | exact crcBit_even c2 ‹_›), by show _ = _; rw [hc2.out]; rfl⟩
            case measure => simp [intOf]; omega
        · obtain rfl : t = 8 := by omega
          go_wp2
          go_round
          case rel => exact ⟨j + 1, c2, by omega, by go_num, rfl, by show _ = _; rw [hs2.out, crcOn_snoc, hc2.out, hc1.out]; rfl⟩
          case measure => simp [intOf]; omega
    · obtain rfl : j = n := by omega
      go_wp2
      go_ret
      refine ⟨ret_int ?_, rfl⟩
      refine (crc_not c1).trans ?_
      rw [hc1.out, hA.all]; rfl

/-- of one part, whose header was just laid -/
theorem crcSum1 (A : Option Addr) (n c : Nat) (l : List UInt8) (W : World) (B : Nat) (hB : B = W.heap.size) (h : Bs W A n l) (hm : n ≤ c) (hc : c ≤ 9223372036854775807) :
    Calls Try.prog 49 #[.slice (some ⟨B, 0, none⟩) 1 1] (W.alloc (.cells #[.slice A n c] 32)) fun e w' => e = .returned (.int .u32 ((crc l).toNat : Int)) ∧ W.alloc (.cells #[.slice A n c] 32) = w' := by
  have := crcSum_any (some ⟨B, 0, none⟩) 1 1 [l] _ (Ps.lit1 32 hB h hm hc) (by omega)
  simpa using this
end Go.Proofs.Ytblidiecahpekaa
