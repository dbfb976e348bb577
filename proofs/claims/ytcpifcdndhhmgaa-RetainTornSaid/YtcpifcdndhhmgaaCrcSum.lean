/- The document's flash memory: its block; what its calls return and leave: the same plain state as the code's. crc.Sum and the reference's Sum: what each returns is the plain sum; nothing is written. -/
import Derived.Test.YtcpifcdndhhmgaaFlashWalk
import Derived.Test.YtcpifcdndhhmgaaChecked
import Derived.Test.YtcpifcdndhhmgaaSealPlain
set_option linter.unusedVariables false
set_option linter.unusedSimpArgs false
namespace Go.Proofs.Ytcpifcdndhhmgaa
open Go.RowKit

def rfCells (f : FlashSt) (A : Option Addr) (n c : Nat) : List Value := bv f.S ++ [.int .i64 f.done, .int .i64 f.left, .slice A n c, .bool f.dead]
/-- the document's memory at block g; its mask lies in blocks of Q -/
def RF (Q : Nat → Prop) (W : World) (g : Nat) (f : FlashSt) : Prop :=
  ∃ A n c, W.heap[g]? = some (.cells (rfCells f A n c).toArray 85 (0, 0)) ∧ f.S.length = 6144 ∧ 0 ≤ f.left ∧ f.left ≤ 9223372036854775807 ∧ Bs W A n f.mask ∧ n ≤ c ∧ c ≤ 9223372036854775807 ∧ InQ Q A

theorem rf_get (f : FlashSt) (A : Option Addr) (n c : Nat) (hS : f.S.length = 6144) (j : Nat) : (rfCells f A n c)[6144 + j]? = [.int .i64 f.done, .int .i64 f.left, .slice A n c, .bool f.dead][j]? := by
  unfold rfCells
  rw [List.getElem?_append_right (by rw [length_bv, hS]; omega), length_bv, hS, Nat.add_sub_cancel_left]
theorem rf_set (f : FlashSt) (A : Option Addr) (n c : Nat) (hS : f.S.length = 6144) (j : Nat) (v : Value) : (rfCells f A n c).toArray.setIfInBounds (6144 + j) v = (bv f.S ++ [.int .i64 f.done, .int .i64 f.left, .slice A n c, .bool f.dead].set j v).toArray := by
  unfold rfCells
  rw [List.setIfInBounds_toArray, List.set_append_right _ _ (by rw [length_bv, hS]; omega), length_bv, hS, Nat.add_sub_cancel_left]
section
variable {W : World} {g : Nat} {f : FlashSt} {A : Option Addr} {n c : Nat}
theorem rf_done (h : W.heap[g]? = some (.cells (rfCells f A n c).toArray 85 (0, 0))) (hS : f.S.length = 6144) : W.cell? ⟨g, 6144, none⟩ = some (.int .i64 f.done) :=
  cell_of_block h (by rw [List.getElem?_toArray]; exact rf_get f A n c hS 0)
theorem rf_left (h : W.heap[g]? = some (.cells (rfCells f A n c).toArray 85 (0, 0))) (hS : f.S.length = 6144) : W.cell? ⟨g, 6145, none⟩ = some (.int .i64 f.left) :=
  cell_of_block h (by rw [List.getElem?_toArray]; exact rf_get f A n c hS 1)
theorem rf_mask (h : W.heap[g]? = some (.cells (rfCells f A n c).toArray 85 (0, 0))) (hS : f.S.length = 6144) : W.cell? ⟨g, 6146, none⟩ = some (.slice A n c) :=
  cell_of_block h (by rw [List.getElem?_toArray]; exact rf_get f A n c hS 2)
theorem rf_dead (h : W.heap[g]? = some (.cells (rfCells f A n c).toArray 85 (0, 0))) (hS : f.S.length = 6144) : W.cell? ⟨g, 6147, none⟩ = some (.bool f.dead) :=
  cell_of_block h (by rw [List.getElem?_toArray]; exact rf_get f A n c hS 3)
theorem rf_byte (h : W.heap[g]? = some (.cells (rfCells f A n c).toArray 85 (0, 0))) {i : Nat} (hi : i < f.S.length) : W.cell? ⟨g, i, none⟩ = some (.int .u8 ((f.S.getD i 0).toNat : Int)) := by
  refine cell_of_block h ?_
  rw [List.getElem?_toArray]
  unfold rfCells
  rw [List.getElem?_append_left (by rw [length_bv]; exact hi), bv_get _ _ hi]
  simp [hi]
theorem rf_bytes (h : W.heap[g]? = some (.cells (rfCells f A n c).toArray 85 (0, 0))) (off k : Nat) (hk : off + k ≤ f.S.length) : Bs W (some ⟨g, off, none⟩) k ((f.S.drop off).take k) := by
  refine ⟨by simp [bv]; omega, fun _ => ⟨g, off, rfl, fun i u hu => ?_⟩⟩
  have hi : i < k := by
    have := (List.getElem?_eq_some_iff.1 hu).1
    simp [bv] at this
    omega
  have := rf_byte h (i := off + i) (by omega)
  rw [this, ← hu, bv_get _ _ (by simp; omega)]
  simp
  rw [List.getElem?_eq_getElem (by omega)]
  rfl
theorem rf_setDone (hS : f.S.length = 6144) (v : Int) : (rfCells f A n c).toArray.setIfInBounds 6144 (.int .i64 v) = (rfCells { f with done := v } A n c).toArray := rf_set f A n c hS 0 _
theorem rf_setLeft (hS : f.S.length = 6144) (v : Int) : (rfCells f A n c).toArray.setIfInBounds 6145 (.int .i64 v) = (rfCells { f with left := v } A n c).toArray := rf_set f A n c hS 1 _
theorem rf_setMask (hS : f.S.length = 6144) (B : Option Addr) (m d : Nat) (l : List UInt8) : (rfCells f A n c).toArray.setIfInBounds 6146 (.slice B m d) = (rfCells { f with mask := l } B m d).toArray := rf_set f A n c hS 2 _
theorem rf_setDead (hS : f.S.length = 6144) (v : Bool) : (rfCells f A n c).toArray.setIfInBounds 6147 (.bool v) = (rfCells { f with dead := v } A n c).toArray := rf_set f A n c hS 3 _
theorem rf_setByte (i : Nat) (hi : i < f.S.length) (x : UInt8) : (rfCells f A n c).toArray.setIfInBounds i (.int .u8 (x.toNat : Int)) = (rfCells { f with S := f.S.set i x } A n c).toArray := by
  unfold rfCells
  rw [List.setIfInBounds_toArray, List.set_append_left _ _ (by rw [length_bv]; exact hi), bv_set']
end
theorem RF.weak {Q Q' : Nat → Prop} {W : World} {g : Nat} {f : FlashSt} (h : RF Q W g f) (hq : ∀ b, Q b → Q' b) : RF Q' W g f := by
  obtain ⟨A, n, c, hg, h1, h2, h3, hB, hn, hc, ha⟩ := h
  exact ⟨A, n, c, hg, h1, h2, h3, hB, hn, hc, fun a e => hq _ (ha a e)⟩
theorem RF.lt {Q : Nat → Prop} {W : World} {g : Nat} {f : FlashSt} (h : RF Q W g f) : g < W.heap.size := by
  obtain ⟨A, n, c, hg, _⟩ := h
  exact (Array.getElem?_eq_some_iff.1 hg).1
theorem RF.below {Q : Nat → Prop} {W W' : World} {g : Nat} {f : FlashSt} (h : RF Q W g f) (hb : Below W.heap.size W W') : RF Q W' g f := by
  obtain ⟨A, n, c, hg, h1, h2, h3, hB, hn, hc, ha⟩ := h
  exact ⟨A, n, c, by rw [hb.block g (Array.getElem?_eq_some_iff.1 hg).1]; exact hg, h1, h2, h3, hB.below hb, hn, hc, ha⟩
theorem RF.other {Q : Nat → Prop} {W W' : World} {g g2 : Nat} {f : FlashSt} (h : RF Q W g f) (hg2 : W.grownBy W' (some g2)) (hne : g ≠ g2) (hQ : ∀ b, Q b → b ≠ g2) : RF Q W' g f := by
  obtain ⟨A, n, c, hg, h1, h2, h3, hB, hn, hc, ha⟩ := h
  refine ⟨A, n, c, ?_, h1, h2, h3, hB.grownKeep hg2 (ha.away hQ), hn, hc, ha⟩
  rw [hg2.block g (Array.getElem?_eq_some_iff.1 hg).1 (fun h => hne (by injection h))]
  exact hg

/-! ### a blank memory is laid -/
def zerosThen : Nat → List Value → Bool
  | 0, [.int .i64 (.ofNat 0), .int .i64 (.ofNat 0), .slice none 0 0, .bool false] => true
  | n + 1, v :: r => zeroByte v && zerosThen n r
  | _, _ => false
theorem zerosThen_eq : ∀ (n : Nat) (l : List Value), zerosThen n l = true → l = List.replicate n (.int .u8 0) ++ [.int .i64 0, .int .i64 0, .slice none 0 0, .bool false]
  | 0, l, h => by
    unfold zerosThen at h
    split at h
    · rfl
    · exfalso; omega
    · cases h
  | n + 1, l, h => by
    unfold zerosThen at h
    split at h
    · exfalso; omega
    · rename_i m v r hm
      injection hm with hm
      subst hm
      simp only [Bool.and_eq_true] at h
      rw [List.replicate_succ, zeroByte_eq h.1, zerosThen_eq n r h.2]
      rfl
    · cases h
def refZeroB (n : Nat) : Value → Bool
  | .agg cs => zerosThen n cs.toList
  | _ => false
theorem refZeroB_eq {n : Nat} {v : Value} (h : refZeroB n v = true) : v = .agg (rfCells ⟨0, 0, [], false, List.replicate n 0⟩ none 0 0).toArray := by
  unfold refZeroB at h
  split at h
  · rename_i cs
    have := zerosThen_eq _ _ h
    congr 1
    apply Array.toList_inj.1
    rw [this]
    show _ = bv (List.replicate n 0) ++ _
    rw [bv_zeros]
  · cases h
set_option maxRecDepth 1000000 in
theorem refZero_ok : ((Try.prog.info? 85).bind (·.zero)).map (refZeroB 6144) = some true := by kernel_rfl
theorem run_zeroRef (w : World) : (zeroValue 85).run Try.prog w = .ok (.agg (rfCells ⟨0, 0, [], false, List.replicate 6144 0⟩ none 0 0).toArray) w := by
  have h := refZero_ok
  cases hi : Try.prog.info? 85 with
  | none => rw [hi] at h; cases h
  | some it =>
    rw [hi] at h
    cases hz : it.zero with
    | none => simp [hz] at h
    | some z =>
      simp only [Option.bind_some, hz, Option.map_some, Option.some.injEq] at h
      rw [← refZeroB_eq h]
      exact zero_run hi hz w

set_option maxRecDepth 100000 in
theorem refStart_any (Q : Nat → Prop) (g : Nat) (f : FlashSt) (w : World) (h : RF Q w g f) :
    Calls Try.prog 24 #[.pointer (some ⟨g, 0, none⟩)] w fun r w' => r = .returned (.tuple #[]) ∧ RF Q w' g (startF f) ∧ w.grownBy w' (some g) := by
  obtain ⟨A, n, c, hg, hS, hl0, hl1, hB, hn, hc, ha⟩ := h
  have c0 := rf_left hg hS
  have c2 := rf_mask hg hS
  have c3 := rf_dead hg hS
  have f0 : w.frozen? ⟨g, 6145, none⟩ = false := free_of_block hg
  have f2 : w.frozen? ⟨g, 6146, none⟩ = false := free_of_block hg
  have f3 : w.frozen? ⟨g, 6147, none⟩ = false := free_of_block hg
  have h1 := block_setCell (i := 6147) (.bool false) hg
  rw [rf_setDead hS] at h1
  have h2 := block_setCell (i := 6145) (.int .i64 0) h1
  rw [rf_setLeft (f := { f with dead := false }) hS] at h2
  have h3 := block_setCell (i := 6146) (.slice none 0 0) h2
  rw [rf_setMask (f := { f with dead := false, left := 0 }) hS none 0 0 []] at h3
  have H3 := Lib.hid h3
  clear hg h1 h2 h3
  go_enter Try.func24, Try.ntmps24
  go_wp2_with fail
  go_end0
  exact ⟨rfl, ⟨none, 0, 0, H3.out, hS, Int.le_refl _, by show (0 : Int) ≤ _; omega, Bs.nil _ _, Nat.le_refl _, by omega, inQ_none Q⟩, grown_trans (grown_set _ _ _ _) (grown_trans (grown_set _ _ _ _) (grown_set _ _ _ _))⟩

set_option maxRecDepth 100000 in
theorem refRead_any (Q : Nat → Prop) (g : Nat) (f : FlashSt) (s : Int) (w : World) (h : RF Q w g f) :
    Calls Try.prog 93 #[.pointer (some ⟨g, 0, none⟩), .int .i64 s] w fun r w' => ∃ A n c, r = .returned (.slice A n c) ∧ Bs w' A n (readF f s) ∧ n ≤ c ∧ c ≤ 9223372036854775807 ∧ Below w.heap.size w w' := by
  obtain ⟨A, n, c, hg, hS, hl0, hl1, hB, hn, hc, ha⟩ := h
  by_cases hs : s < 0 ∨ 6 ≤ s
  · rw [show readF f s = [] by unfold readF; rw [if_pos hs]]
    clear hg
    by_cases h0 : s < 0
    · go_enter Try.func93, Try.ntmps93
      go_wp2_with fail
      go_ret
      exact ⟨_, _, _, rfl, Bs.nil _ _, Nat.le_refl _, by omega, Below.refl _ _⟩
    · have h6 : (6 : Int) ≤ s := by omega
      go_enter Try.func93, Try.ntmps93
      go_wp2_with fail
      go_ret
      exact ⟨_, _, _, rfl, Bs.nil _ _, Nat.le_refl _, by omega, Below.refl _ _⟩
  · obtain ⟨k, rfl⟩ : ∃ k : Nat, s = k := ⟨s.toNat, by omega⟩
    have hk : k < 6 := by omega
    have hk1 : (k : Int) < 6 := by omega
    have hk0 : (0 : Int) ≤ k := by omega
    have hb := rf_bytes hg (k * 1024) 1024 (by omega)
    rw [show readF f k = (f.S.drop (k * 1024)).take 1024 by unfold readF; rw [if_neg hs]; rfl]
    have hlen := hb.len
    generalize (f.S.drop (k * 1024)).take 1024 = R at hb hlen ⊢
    have HL := Lib.hid hlen
    clear hg hlen
    go_enter Try.func93, Try.ntmps93
    go_wp2_with (at_builtin; refine cloneB w rfl (.tmp 11) (.tmp 17) rfl _ rfl rfl _ _ _ R rfl hb (by omega) ?_; intro v2 w2 hown2 hb2; obtain ⟨A2, c2, rfl, q1, q2, q3, _⟩ := own_slice hown2)
    go_ret
    exact ⟨_, _, _, rfl, q3, q1, by simpa [maxLen] using q2, hb2⟩
end Go.Proofs.Ytcpifcdndhhmgaa
set_option linter.unusedVariables false
set_option linter.unusedSimpArgs false
namespace Go.Proofs.Ytcpifcdndhhmgaa
open Go.RowKit

set_option maxRecDepth 100000 in
theorem crcSum_any (A : Option Addr) (n c : Nat) (ls : List (List UInt8)) (w : World) (hA : Ps w A n ls) (hn : n ≤ 140737488355328) :
    Calls Try.prog 90 #[.slice A n c] w fun e w' => e = .returned (.int .u32 ((crc ls.flatten).toNat : Int)) ∧ w = w' := by
  go_enter Try.func90, Try.ntmps90
  go_wp2
  go_loop [3, 10] (fun c i => ∃ (k : Nat) (c0 : BitVec 32), k ≤ n ∧ i = .int .i64 k ∧ c = .int .u32 (c0.toNat : Int) ∧ Hid (c0 = crcOn 0xFFFFFFFF#32 (ls.take k).flatten)) (fun _ i => n - (intOf i).toNat)
  case atStart => exact ⟨0, 0xFFFFFFFF#32, Nat.zero_le _, rfl, rfl, rfl⟩
  case round =>
    obtain ⟨k, c0, hk, rfl, rfl, hc0⟩ := hrel
    by_cases hlt : k < n
    · obtain ⟨pb, po, B, m, d, l, rfl, hcell, hB, hm, hd, hs, _⟩ := hA.next hlt
      go_wp2
      go_loop [3, 16] (fun c i => ∃ (j : Nat) (c1 : BitVec 32), j ≤ m ∧ i = .int .i64 j ∧ c = .int .u32 (c1.toNat : Int) ∧ Hid (c1 = crcOn c0 (l.take j))) (fun _ i => m - (intOf i).toNat)
      case atStart => exact ⟨0, c0, Nat.zero_le _, rfl, rfl, rfl⟩
      case round =>
        obtain ⟨j, c1, hj, rfl, rfl, hc1⟩ := hrel
        by_cases hlt2 : j < m
        · obtain ⟨qb, qo, x, rfl, hcell2, hs2, _⟩ := hB.next hlt2
          go_wp2
          go_loop [3, 24] (fun c i => ∃ (t : Nat) (c2 : BitVec 32), t ≤ 8 ∧ i = .int .i64 t ∧ c = .int .u32 (c2.toNat : Int) ∧ Hid (c2 = Nat.repeat crcBit t (c1 ^^^ x.toBitVec.setWidth 32))) (fun _ i => 8 - (intOf i).toNat)
          case atStart => exact ⟨0, _, Nat.zero_le _, rfl, congrArg _ (crcByte_start c1 x), rfl⟩
          case round =>
            obtain ⟨t, c2, ht, rfl, rfl, hc2⟩ := hrel
            by_cases hlt3 : t < 8
            · go_wp2
              go_round
              case rel => exact ⟨t + 1, crcBit c2, by omega, by go_num, congrArg _ (crcBit_code c2), by show _ = _; rw [hc2.out]; rfl⟩
              case measure => simp [intOf]; omega
            · obtain rfl : t = 8 := by omega
              go_wp2
              go_round
              case rel => exact ⟨j + 1, c2, by omega, by go_num, rfl, by show _ = _; rw [hs2.out, crcOn_snoc, hc2.out, hc1.out]; rfl⟩
              case measure => simp [intOf]; omega
        · obtain rfl : j = m := by omega
          go_wp2
          go_round
          case rel => exact ⟨k + 1, c1, by omega, by go_num, rfl, by show _ = _; rw [hs.out, List.flatten_append, crcOn_append, hc1.out, hc0.out, hB.all]; simp [crcOn]⟩
          case measure => simp [intOf]; omega
    · obtain rfl : k = n := by omega
      go_wp2
      go_ret
      refine ⟨ret_int ?_, rfl⟩
      refine (crc_not c0).trans ?_
      rw [hc0.out, hA.all]; rfl

set_option maxRecDepth 100000 in
theorem refSum_any (A : Option Addr) (n c : Nat) (l : List UInt8) (w : World) (hA : Bs w A n l) (hn : n ≤ 140737488355328) :
    Calls Try.prog 102 #[.slice A n c] w fun e w' => e = .returned (.int .u32 ((crc l).toNat : Int)) ∧ w = w' := by
  go_enter Try.func102, Try.ntmps102
  go_wp2
  go_loop [3, 4] (fun c i => ∃ (j : Nat) (c1 : BitVec 32), j ≤ n ∧ i = .int .i64 j ∧ c = .int .u32 (c1.toNat : Int) ∧ Hid (c1 = crcOn 0xFFFFFFFF#32 (l.take j))) (fun _ i => n - (intOf i).toNat)
  case atStart => exact ⟨0, 0xFFFFFFFF#32, Nat.zero_le _, rfl, rfl, rfl⟩
  case round =>
    obtain ⟨j, c1, hj, rfl, rfl, hc1⟩ := hrel
    by_cases hlt2 : j < n
    · obtain ⟨qb, qo, x, rfl, hcell2, hs2, _⟩ := hA.next hlt2
      go_wp2
      go_loop [3, 5] (fun c i => ∃ (t : Nat) (c2 : BitVec 32), t ≤ 8 ∧ i = .int .i64 t ∧ c = .int .u32 (c2.toNat : Int) ∧ Hid (c2 = Nat.repeat crcBit t (c1 ^^^ x.toBitVec.setWidth 32))) (fun _ i => 8 - (intOf i).toNat)
      case atStart => exact ⟨0, _, Nat.zero_le _, rfl, congrArg _ (crcByte_start c1 x), rfl⟩
      case round =>
        obtain ⟨t, c2, ht, rfl, rfl, hc2⟩ := hrel
        by_cases hlt3 : t < 8
        · go_wp2
          all_goals
            go_round
            case rel => exact ⟨t + 1, crcBit c2, by omega, by go_num, congrArg _ (by first | exact crcBit_odd c2 ‹_› | exact crcBit_even c2 ‹_›), by show _ = _; rw [hc2.out]; rfl⟩
            case measure => simp [intOf]; omega
        · obtain rfl : t = 8 := by omega
          go_wp2
          go_round
          case rel => exact ⟨j + 1, c2, by omega, by go_num, rfl, by show _ = _; rw [hs2.out, crcOn_snoc, hc2.out, hc1.out]; rfl⟩
          case measure => simp [intOf]; omega
    · obtain rfl : j = n := by omega
      go_wp2
      go_ret
      refine ⟨ret_int ?_, rfl⟩
      refine (crc_not c1).trans ?_
      rw [hc1.out, hA.all]; rfl

/-- of one part, whose header was just laid -/
theorem crcSum1 (A : Option Addr) (n c : Nat) (l : List UInt8) (W : World) (B : Nat) (hB : B = W.heap.size) (h : Bs W A n l) (hm : n ≤ c) (hc : c ≤ 9223372036854775807) :
    Calls Try.prog 90 #[.slice (some ⟨B, 0, none⟩) 1 1] (W.alloc (.cells #[.slice A n c] 27)) fun e w' => e = .returned (.int .u32 ((crc l).toNat : Int)) ∧ W.alloc (.cells #[.slice A n c] 27) = w' := by
  have := crcSum_any (some ⟨B, 0, none⟩) 1 1 [l] _ (Ps.lit1 27 hB h hm hc) (by omega)
  simpa using this
end Go.Proofs.Ytcpifcdndhhmgaa
