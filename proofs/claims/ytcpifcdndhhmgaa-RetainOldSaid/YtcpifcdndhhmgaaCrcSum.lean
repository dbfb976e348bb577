/- The flash memory's exported functions: what each returns and leaves. The document's flash memory: its block; what its calls return and leave: the same plain state as the code's. crc.Sum and the reference's Sum: what each returns is the plain sum; nothing is written. -/
import Derived.Test.YtcpifcdndhhmgaaFlashWalk
import Derived.Test.YtcpifcdndhhmgaaChecked
import Derived.Test.YtcpifcdndhhmgaaSealPlain
set_option linter.unusedVariables false
set_option linter.unusedSimpArgs false
namespace Go.Proofs.Ytcpifcdndhhmgaa
open Go.RowKit

set_option maxRecDepth 100000 in
theorem read_any (Q : Nat → Prop) (g : Nat) (f : FlashSt) (s : Int) (w : World) (h : FS Q w g f) :
    Calls Try.prog 16 #[.pointer (some ⟨g, 0, none⟩), .int .i64 s] w fun r w' => ∃ A n c, r = .returned (.slice A n c) ∧ Bs w' A n (readF f s) ∧ n ≤ c ∧ c ≤ 1024 ∧ Below w.heap.size w w' := by
  obtain ⟨A, n, c, hg, hS, hl0, hl1, hB, hn, hc, ha⟩ := h
  by_cases hs : s < 0 ∨ 6 ≤ s
  · have hi := is_any s w
    rw [decide_eq_true hs] at hi
    rw [show readF f s = [] by unfold readF; rw [if_pos hs]]
    have HG := Lib.hid hg
    clear hg
    go_enter Try.func16, Try.ntmps16
    go_wp2_with (go_at_call 43; refine Calls.mono hi ?_; rintro r _ ⟨rfl, rfl⟩)
    go_ret
    exact ⟨_, _, _, rfl, Bs.nil _ _, Nat.le_refl _, by omega, Below.refl _ _⟩
  · obtain ⟨k, rfl⟩ : ∃ k : Nat, s = k := ⟨s.toNat, by omega⟩
    have hk : k < 6 := by omega
    have hk1 : (k : Int) < 6 := by omega
    have hk0 : (0 : Int) ≤ k := by omega
    have hi := is_any (k : Int) w
    rw [decide_eq_false hs] at hi
    have hb := fl_bytes hg (k * 1024) 1024 (by omega)
    rw [show readF f k = (f.S.drop (k * 1024)).take 1024 by unfold readF; rw [if_neg hs]; rfl]
    have HG := Lib.hid hg
    have c0 := fl_left hg
    clear hg
    go_enter Try.func16, Try.ntmps16
    go_wp2_with (go_at_call 43; refine Calls.mono hi ?_; rintro r _ ⟨rfl, rfl⟩)
    refine Calls.mono (bytes_any _ _ _ _ _ hb (by omega)) ?_
    rintro r w1 ⟨rfl, hh, hb1, hlt1⟩
    go_wp2_with fail
    go_ret
    have hlen := hb.len
    refine ⟨_, _, _, rfl, ?_, Nat.le_refl _, Nat.le_refl _, hb1⟩
    have := Vs.lit (n := 1024) hh (by simp [bv]; omega)
    simpa [Bs] using this

end Go.Proofs.Ytcpifcdndhhmgaa
set_option linter.unusedVariables false
set_option linter.unusedSimpArgs false
namespace Go.Proofs.Ytcpifcdndhhmgaa
open Go.RowKit

def rfCells (f : FlashSt) (A : Option Addr) (n c : Nat) : List Value := bv f.S ++ [.int .i64 f.done, .int .i64 f.left, .slice A n c, .bool f.dead]
/-- the document's memory at block g; its mask lies in blocks of Q -/
def RF (Q : Nat → Prop) (W : World) (g : Nat) (f : FlashSt) : Prop :=
  ∃ A n c, W.heap[g]? = some (.cells (rfCells f A n c).toArray 85 (0, 0)) ∧ f.S.length = 6144 ∧ 0 ≤ f.left ∧ f.left ≤ 9223372036854775807 ∧ Bs W A n f.mask ∧ n ≤ c ∧ c ≤ 9223372036854775807 ∧ InQ Q A

section
variable {W : World} {g : Nat} {f : FlashSt} {A : Option Addr} {n c : Nat}
end
theorem RF.lt {Q : Nat → Prop} {W : World} {g : Nat} {f : FlashSt} (h : RF Q W g f) : g < W.heap.size := by
  obtain ⟨A, n, c, hg, _⟩ := h
  exact (Array.getElem?_eq_some_iff.1 hg).1
theorem RF.below {Q : Nat → Prop} {W W' : World} {g : Nat} {f : FlashSt} (h : RF Q W g f) (hb : Below W.heap.size W W') : RF Q W' g f := by
  obtain ⟨A, n, c, hg, h1, h2, h3, hB, hn, hc, ha⟩ := h
  exact ⟨A, n, c, by rw [hb.block g (Array.getElem?_eq_some_iff.1 hg).1]; exact hg, h1, h2, h3, hB.below hb, hn, hc, ha⟩
theorem RF.other {Q : Nat → Prop} {W W' : World} {g g2 : Nat} {f : FlashSt} (h : RF Q W g f) (hg2 : W.grownBy W' (some g2)) (hne : g ≠ g2) (hQ : ∀ b, Q b → b ≠ g2) : RF Q W' g f := by
  obtain ⟨A, n, c, hg, h1, h2, h3, hB, hn, hc, ha⟩ := h
  refine ⟨A, n, c, ?_, h1, h2, h3, hB.grownKeep hg2 (ha.away hQ), hn, hc, ha⟩
  rw [hg2.block g (Array.getElem?_eq_some_iff.1 hg).1 (fun h => hne (by injection h))]
  exact hg

/-! ### a blank memory is laid -/
def zerosThen : Nat → List Value → Bool
  | 0, [.int .i64 (.ofNat 0), .int .i64 (.ofNat 0), .slice none 0 0, .bool false] => true
  | n + 1, v :: r => zeroByte v && zerosThen n r
  | _, _ => false
def refZeroB (n : Nat) : Value → Bool
  | .agg cs => zerosThen n cs.toList
  | _ => false
end Go.Proofs.Ytcpifcdndhhmgaa
set_option linter.unusedVariables false
set_option linter.unusedSimpArgs false
namespace Go.Proofs.Ytcpifcdndhhmgaa
open Go.RowKit

set_option maxRecDepth 100000 in
theorem crcSum_any (A : Option Addr) (n c : Nat) (ls : List (List UInt8)) (w : World) (hA : Ps w A n ls) (hn : n ≤ 140737488355328) :
    Calls Try.prog 90 #[.slice A n c] w fun e w' => e = .returned (.int .u32 ((crc ls.flatten).toNat : Int)) ∧ w = w' := by
  go_enter Try.func90, Try.ntmps90
  go_wp2
  go_loop [3, 10] (fun c i => ∃ (k : Nat) (c0 : BitVec 32), k ≤ n ∧ i = .int .i64 k ∧ c = .int .u32 (c0.toNat : Int) ∧ Hid (c0 = crcOn 0xFFFFFFFF#32 (ls.take k).flatten)) (fun _ i => n - (intOf i).toNat)
  case atStart => exact ⟨0, 0xFFFFFFFF#32, Nat.zero_le _, rfl, rfl, rfl⟩
  case round =>
    obtain ⟨k, c0, hk, rfl, rfl, hc0⟩ := hrel
    by_cases hlt : k < n
    · obtain ⟨pb, po, B, m, d, l, rfl, hcell, hB, hm, hd, hs, _⟩ := hA.next hlt
      go_wp2
      go_loop [3, 16] (fun c i => ∃ (j : Nat) (c1 : BitVec 32), j ≤ m ∧ i = .int .i64 j ∧ c = .int .u32 (c1.toNat : Int) ∧ Hid (c1 = crcOn c0 (l.take j))) (fun _ i => m - (intOf i).toNat)
      case atStart => exact ⟨0, c0, Nat.zero_le _, rfl, rfl, rfl⟩
      case round =>
        obtain ⟨j, c1, hj, rfl, rfl, hc1⟩ := hrel
        by_cases hlt2 : j < m
        · obtain ⟨qb, qo, x, rfl, hcell2, hs2, _⟩ := hB.next hlt2
          go_wp2
          go_loop [3, 24] (fun c i => ∃ (t : Nat) (c2 : BitVec 32), t ≤ 8 ∧ i = .int .i64 t ∧ c = .int .u32 (c2.toNat : Int) ∧ Hid (c2 = Nat.repeat crcBit t (c1 ^^^ x.toBitVec.setWidth 32))) (fun _ i => 8 - (intOf i).toNat)
          case atStart => exact ⟨0, _, Nat.zero_le _, rfl, congrArg _ (crcByte_start c1 x), rfl⟩
          case round =>
            obtain ⟨t, c2, ht, rfl, rfl, hc2⟩ := hrel
            by_cases hlt3 : t < 8
            · go_wp2
              go_round
              case rel => exact ⟨t + 1, crcBit c2, by omega, by go_num, congrArg _ (crcBit_code c2), by show _ = _; rw [hc2.out]; rfl⟩
              case measure => simp [intOf]; omega
            · obtain rfl : t = 8 := by omega
              go_wp2
              go_round
              case rel => exact ⟨j + 1, c2, by omega, by go_num, rfl, by show _ = _; rw [hs2.out, crcOn_snoc, hc2.out, hc1.out]; rfl⟩
              case measure => simp [intOf]; omega
        · obtain rfl : j = m := by omega
          go_wp2
          go_round
          case rel => exact ⟨k + 1, c1, by omega, by go_num, rfl, by show _ = _; rw [hs.out, List.flatten_append, crcOn_append, hc1.out, hc0.out, hB.all]; simp [crcOn]⟩
          case measure => simp [intOf]; omega
    · obtain rfl : k = n := by omega
      go_wp2
      go_ret
      refine ⟨ret_int ?_, rfl⟩
      refine (crc_not c0).trans ?_
      rw [hc0.out, hA.all]; rfl

/-- of one part, whose header was just laid -/
theorem crcSum1 (A : Option Addr) (n c : Nat) (l : List UInt8) (W : World) (B : Nat) (hB : B = W.heap.size) (h : Bs W A n l) (hm : n ≤ c) (hc : c ≤ 9223372036854775807) :
    Calls Try.prog 90 #[.slice (some ⟨B, 0, none⟩) 1 1] (W.alloc (.cells #[.slice A n c] 27)) fun e w' => e = .returned (.int .u32 ((crc l).toNat : Int)) ∧ W.alloc (.cells #[.slice A n c] 27) = w' := by
  have := crcSum_any (some ⟨B, 0, none⟩) 1 1 [l] _ (Ps.lit1 27 hB h hm hc) (by omega)
  simpa using this
end Go.Proofs.Ytcpifcdndhhmgaa
