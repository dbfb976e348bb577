/- code's reader: what each of its calls returns and leaves. -/
import Derived.Test.YtcpifcdndhhmgaaChecked
import Derived.Test.YtcpifcdndhhmgaaClone
import Derived.Test.YtcpifcdndhhmgaaCodeText
import Derived.Deep.DeepCutAuto
set_option linter.unusedVariables false
set_option linter.unusedSimpArgs false
namespace Go.Proofs.Ytcpifcdndhhmgaa
open Go.RowKit

theorem Away.from_ {g : Nat} {A : Option Addr} (h : Away g A) (cap k : Nat) : Away g (if cap = k then A else A.map (·.add k)) := by
  split
  · exact h
  · intro b e
    cases A with
    | none => cases e
    | some a =>
      simp only [Option.map_some, Option.some.injEq] at e
      subst e
      rw [block_add]
      exact h _ rfl

theorem InQ.from_ {Q : Nat → Prop} {A : Option Addr} (h : InQ Q A) (cap k : Nat) : InQ Q (if cap = k then A else A.map (·.add k)) := by
  split
  · exact h
  · intro b e
    cases A with
    | none => cases e
    | some a =>
      simp only [Option.map_some, Option.some.injEq] at e
      subst e
      rw [block_add]
      exact h _ rfl
/-- the reader at block g, its bytes in a block of Q: the bytes that are left, the first error -/
def CRP (Q : Nat → Prop) (W : World) (g : Nat) (l : List UInt8) (e : Int) : Prop :=
  ∃ A n c, W.heap[g]? = some (.cells #[.slice A n c, .int .i64 e] 131 (0, 0)) ∧ Bs W A n l ∧ n ≤ c ∧ c ≤ 9223372036854775807 ∧ InQ Q A
def CR (W : World) (g : Nat) (l : List UInt8) (e : Int) : Prop := CRP (fun b => b ≠ g) W g l e

/-- what is taken, what is left, the error behind it -/
def taken (l : List UInt8) (e : Int) (k : Nat) : List UInt8 × List UInt8 × Int :=
  if e = 0 ∧ l.length < k then ([], l, 8) else if e ≠ 0 then ([], l, e) else (l.take k, l.drop k, 0)

set_option maxRecDepth 100000 in
theorem take_Q (Q : Nat → Prop) (g : Nat) (hQ : ∀ b, Q b → b ≠ g) (l : List UInt8) (e : Int) (k : Nat) (w : World) (h : CRP Q w g l e) (hk : k ≤ 1099511627776) :
    Calls Try.prog 106 #[.pointer (some ⟨g, 0, none⟩), .int .i64 k] w fun r w' => ∃ A n c, r = .returned (.slice A n c) ∧ Bs w' A n (taken l e k).1 ∧ n ≤ c ∧ c ≤ 9223372036854775807 ∧ InQ Q A ∧
      CRP Q w' g (taken l e k).2.1 (taken l e k).2.2 ∧ w.grownBy w' (some g) := by
  obtain ⟨A, n, c, hg, hB, hn, hc, ha⟩ := h
  have hl := hB.len
  have c0 : w.cell? ⟨g, 0, none⟩ = some (.slice A n c) := cell_of_block hg rfl
  have c1 : w.cell? ⟨g, 1, none⟩ = some (.int .i64 e) := cell_of_block hg rfl
  have f0 : w.frozen? ⟨g, 0, none⟩ = false := free_of_block hg
  have f1 : w.frozen? ⟨g, 1, none⟩ = false := free_of_block hg
  have HG := Lib.hid hg
  clear hg
  by_cases h0 : e = 0
  · subst h0
    by_cases hlt : n < k
    · have ht : taken l 0 k = ([], l, 8) := by unfold taken; rw [if_pos ⟨rfl, by omega⟩]
      have HT := Lib.hid ht
      have HL := Lib.hid hl
      have hlt' : (n : Int) < k := by omega
      clear ht hl
      go_enter Try.func106, Try.ntmps106
      go_wp2_with fail
      go_ret
      rw [HT.out]
      have h2 := block_setCell (i := 1) (.int .i64 8) HG.out
      exact ⟨_, _, _, rfl, Bs.nil _ _, Nat.le_refl _, by omega, inQ_none Q, ⟨A, n, c, h2, hB.grownKeep (grown_set _ _ _ _) (ha.away hQ), hn, hc, ha⟩, grown_set _ _ _ _⟩
    · have ht : taken l 0 k = (l.take k, l.drop k, 0) := by unfold taken; rw [if_neg (by omega), if_neg (by simp)]
      have HT := Lib.hid ht
      have HL := Lib.hid hl
      have hlt' : ¬ (n : Int) < k := by omega
      have hk1 : (k : Int) ≤ n := by omega
      have hk2 : (k : Int) ≤ c := by omega
      have hk0 : (0 : Int) ≤ k := by omega
      clear ht hl
      go_enter Try.func106, Try.ntmps106
      go_wp2_with fail
      all_goals
        go_ret
        rw [HT.out]
        have hl := HL.out
        have h1 := hB.to_ (k := k) (by omega)
        have h2 := hB.from_ (k := k) (by omega) hn
        have h3 := ha.from_ c k
        first
          | (have hck' : c = k := h; rw [if_pos hck'] at h2 h3)
          | (have hck' : ¬ c = k := h; rw [if_neg hck'] at h2 h3)
        refine ⟨_, _, _, rfl, h1.grownKeep (grown_set _ _ _ _) (ha.away hQ), by omega, by omega, ha, ⟨_, _, _, block_setCell (i := 0) _ HG.out, h2.grownKeep (grown_set _ _ _ _) (h3.away hQ), by omega, by omega, h3⟩, grown_set _ _ _ _⟩
  · have ht : taken l e k = ([], l, e) := by unfold taken; rw [if_neg (by omega), if_pos h0]
    have HT := Lib.hid ht
    have HL := Lib.hid hl
    have he : (e == 0) = false := by rw [beq_eq_false_iff_ne]; exact h0
    have he2 : (e != 0) = true := by rw [bne_iff_ne]; exact h0
    clear ht hl
    go_enter Try.func106, Try.ntmps106
    go_wp2_with fail
    go_ret
    rw [HT.out]
    exact ⟨_, _, _, rfl, Bs.nil _ _, Nat.le_refl _, by omega, inQ_none Q, ⟨A, n, c, HG.out, hB, hn, hc, ha⟩, grown_refl _ _⟩

theorem taken_len (l : List UInt8) (e : Int) (k : Nat) : (taken l e k).1.length ≤ k := by
  unfold taken
  split
  · simp
  · split
    · simp
    · simp; omega

set_option maxRecDepth 100000 in
theorem number_Q (Q : Nat → Prop) (g : Nat) (hQ : ∀ b, Q b → b ≠ g) (l : List UInt8) (e : Int) (k : Nat) (w : World) (h : CRP Q w g l e) (hk : k ≤ 8) :
    Calls Try.prog 105 #[.pointer (some ⟨g, 0, none⟩), .int .i64 k] w fun r w' => r = .returned (.int .i64 (wrap64 (leN (taken l e k).1 : Int))) ∧
      CRP Q w' g (taken l e k).2.1 (taken l e k).2.2 ∧ w.grownBy w' (some g) := by
  have hlen := taken_len l e k
  go_enter Try.func105, Try.ntmps105
  go_wp2_with (go_at_call 106; refine Calls.mono (take_Q Q g hQ l e k _ h (by omega)) ?_; rintro r w1 ⟨A, n, c, rfl, hB, hn, hc, ha, hcr, hgr⟩)
  generalize ht0 : (taken l e k).1 = t at hB hlen
  have HT0 := Lib.hid ht0
  clear ht0
  have hl := hB.len
  have HL := Lib.hid hl
  clear hl
  go_loop [5, 6, 7, 12] (fun u _ _ i => ∃ (j : Nat) (s : Nat), j ≤ n ∧ i = .int .i64 j ∧ u = .int .u64 s ∧ Hid (s = leN (t.take j))) (fun _ _ _ i => n - (intOf i).toNat)
  case atStart => exact ⟨0, 0, Nat.zero_le _, rfl, rfl, rfl⟩
  case round =>
    obtain ⟨j, s, hj, rfl, rfl, hs⟩ := hrel
    have hn8 : n ≤ 8 := by rw [← HL.out]; omega
    by_cases hlt : j < n
    · have hjn : (j : Int) < n := by omega
      have hj0 : (0 : Int) ≤ j := by omega
      have hj8 : (j : Int) < 8 := by omega
      obtain ⟨b, o, x, rfl, hcell, ht, hx⟩ := hB.next hlt
      have hs1 : leN (t.take (j + 1)) = s + x.toNat * 2 ^ (8 * j) := by
        have hjl : (t.take j).length = j := by rw [List.length_take, HL.out]; omega
        rw [ht.out, leN_append, leN_one, hjl, ← hs.out, Nat.mul_comm, Nat.pow_mul]
      have hs2 : s < 2 ^ (8 * j) := by
        have hjl : (t.take j).length = j := by rw [List.length_take, HL.out]; omega
        have := leN_lt (t.take j)
        rw [hjl, ← hs.out] at this
        rw [Nat.pow_mul]; exact this
      have hs3 : x.toNat * 2 ^ (8 * j) + s < 18446744073709551616 := by
        have h1 := leN_lt (t.take (j + 1))
        have hjl : (t.take (j + 1)).length = j + 1 := by rw [List.length_take, HL.out]; omega
        rw [hjl, hs1] at h1
        have h2 : 256 ^ (j + 1) ≤ 256 ^ 8 := Nat.pow_le_pow_right (by omega) (by omega)
        have h3 : 256 ^ 8 = 18446744073709551616 := by decide
        omega
      have hor := u64_or_join s x.toNat (8 * j) hs2 hs3
      have HS := Lib.hid hs1
      have HO := Lib.hid hor
      clear hs1 hor
      have hxl := byte_lt x
      go_wp2_with fail
      refine ⟨⟨j + 1, s + x.toNat * 2 ^ (8 * j), by omega, by go_num, ?_, HS.out.symm⟩, by simp [intOf]; omega⟩
      have e3 : ((x.toNat : Int) * 2 ^ (8 * j)) = ((x.toNat * 2 ^ (8 * j) : Nat) : Int) := by rw [Int.natCast_mul, Int.natCast_pow]; rfl
      rw [e3, IntWalk.u64_in _ (by generalize x.toNat * 2 ^ (8 * j) = y at hs3; omega), HO.out]
    · obtain rfl : j = n := by omega
      have e1 : leN (t.take j) = leN t := by rw [List.take_of_length_le (by rw [HL.out]; omega)]
      rw [e1] at hs
      go_wp2_with fail
      go_ret
      exact ⟨by rw [HT0.out, ← hs.out]; rfl, hcr, hgr⟩

theorem readInt_Q (Q : Nat → Prop) (g : Nat) (hQ : ∀ b, Q b → b ≠ g) (l : List UInt8) (e : Int) (w : World) (h : CRP Q w g l e) :
    Calls Try.prog 81 #[.pointer (some ⟨g, 0, none⟩)] w fun r w' => r = .returned (.int .i64 (wrap64 (leN (taken l e 8).1 : Int))) ∧
      CRP Q w' g (taken l e 8).2.1 (taken l e 8).2.2 ∧ w.grownBy w' (some g) := by
  obtain ⟨A, n, c, hg, _⟩ := id h
  have c0 : w.cell? ⟨g, 0, none⟩ = some (.slice A n c) := cell_of_block hg rfl
  clear hg
  go_enter Try.func81, Try.ntmps81
  go_wp2_with (go_at_call 105; refine Calls.mono (number_Q Q g hQ l e 8 _ h (by omega)) ?_; rintro r w1 ⟨rfl, hcr, hgr⟩)
  go_ret
  exact ⟨rfl, hcr, hgr⟩
theorem readByte_Q (Q : Nat → Prop) (g : Nat) (hQ : ∀ b, Q b → b ≠ g) (l : List UInt8) (e : Int) (w : World) (h : CRP Q w g l e) :
    Calls Try.prog 82 #[.pointer (some ⟨g, 0, none⟩)] w fun r w' => r = .returned (.int .i64 (leN (taken l e 1).1 : Int)) ∧
      CRP Q w' g (taken l e 1).2.1 (taken l e 1).2.2 ∧ w.grownBy w' (some g) := by
  have hle : leN (taken l e 1).1 < 256 := by
    have h1 := leN_lt (taken l e 1).1
    have h2 := taken_len l e 1
    have h3 : 256 ^ (taken l e 1).1.length ≤ 256 ^ 1 := Nat.pow_le_pow_right (by omega) h2
    omega
  have hw : wrap64 (leN (taken l e 1).1 : Int) = leN (taken l e 1).1 := by unfold wrap64; omega
  have HW := Lib.hid hw
  clear hw
  go_enter Try.func82, Try.ntmps82
  go_wp2_with (go_at_call 105; refine Calls.mono (number_Q Q g hQ l e 1 _ h (by omega)) ?_; rintro r w1 ⟨rfl, hcr, hgr⟩; rw [HW.out])
  go_ret
  exact ⟨rfl, hcr, hgr⟩

/-- what is read as a text -/
def textOf (l : List UInt8) (e : Int) : List UInt8 × List UInt8 × Int :=
  taken (taken l e 2).2.1 (taken l e 2).2.2 (leN (taken l e 2).1)
set_option maxRecDepth 100000 in
theorem readText_Q (Q : Nat → Prop) (g : Nat) (hQ : ∀ b, Q b → b ≠ g) (l : List UInt8) (e : Int) (w : World) (h : CRP Q w g l e) :
    Calls Try.prog 84 #[.pointer (some ⟨g, 0, none⟩)] w fun r w' => r = .returned (.string ⟨(textOf l e).1.toArray⟩) ∧
      CRP Q w' g (textOf l e).2.1 (textOf l e).2.2 ∧ w.grownBy w' (some g) := by
  have hle : leN (taken l e 2).1 < 65536 := by
    have h1 := leN_lt (taken l e 2).1
    have h2 := taken_len l e 2
    have h3 : 256 ^ (taken l e 2).1.length ≤ 256 ^ 2 := Nat.pow_le_pow_right (by omega) h2
    omega
  have hw : wrap64 (leN (taken l e 2).1 : Int) = leN (taken l e 2).1 := by unfold wrap64; omega
  have HW := Lib.hid hw
  clear hw
  go_enter Try.func84, Try.ntmps84
  go_wp2_with (first
    | (go_at_call 105; refine Calls.mono (number_Q Q g hQ l e 2 _ h (by omega)) ?_; rintro r w1 ⟨rfl, hcr, hgr⟩; rw [HW.out])
    | (go_at_call 106; refine Calls.mono (take_Q Q g hQ _ _ _ _ hcr (by omega)) ?_; rintro r w2 ⟨A, n, c, rfl, hB, hn, hc, ha, hcr2, hgr2⟩; have hcv := convB (c := c) hB))
  go_ret
  exact ⟨rfl, hcr2, grown_trans hgr hgr2⟩

theorem fail_Q (Q : Nat → Prop) (g : Nat) (hQ : ∀ b, Q b → b ≠ g) (l : List UInt8) (e f : Int) (w : World) (h : CRP Q w g l e) :
    Calls Try.prog 83 #[.pointer (some ⟨g, 0, none⟩), .int .i64 f] w fun r w' => r = .returned (.tuple #[]) ∧ CRP Q w' g l (if e = 0 then f else e) ∧ w.grownBy w' (some g) := by
  obtain ⟨A, n, c, hg, hB, hn, hc, ha⟩ := h
  have c1 : w.cell? ⟨g, 1, none⟩ = some (.int .i64 e) := cell_of_block hg rfl
  have f1 : w.frozen? ⟨g, 1, none⟩ = false := free_of_block hg
  have HG := Lib.hid hg
  clear hg
  by_cases h0 : e = 0
  · subst h0
    rw [if_pos rfl]
    go_enter Try.func83, Try.ntmps83
    go_wp2_with fail
    go_end0
    exact ⟨rfl, ⟨A, n, c, block_setCell (i := 1) _ HG.out, hB.grownKeep (grown_set _ _ _ _) (ha.away hQ), hn, hc, ha⟩, grown_set _ _ _ _⟩
  · rw [if_neg h0]
    have he : (e == 0) = false := by rw [beq_eq_false_iff_ne]; exact h0
    go_enter Try.func83, Try.ntmps83
    go_wp2_with fail
    go_end0
    exact ⟨rfl, ⟨A, n, c, HG.out, hB, hn, hc, ha⟩, grown_refl _ _⟩

/-- what the end tells -/
def ended (l : List UInt8) (e : Int) : Int := if e = 0 ∧ 0 < l.length then 9 else e
theorem end_Q (Q : Nat → Prop) (g : Nat) (hQ : ∀ b, Q b → b ≠ g) (l : List UInt8) (e : Int) (w : World) (h : CRP Q w g l e) :
    Calls Try.prog 85 #[.pointer (some ⟨g, 0, none⟩)] w fun r w' => r = .returned (.int .i64 (ended l e)) ∧ w = w' := by
  obtain ⟨A, n, c, hg, hB, hn, hc, ha⟩ := h
  have c0 : w.cell? ⟨g, 0, none⟩ = some (.slice A n c) := cell_of_block hg rfl
  have c1 : w.cell? ⟨g, 1, none⟩ = some (.int .i64 e) := cell_of_block hg rfl
  clear hg
  have hl := hB.len
  have HL := Lib.hid hl
  clear hl
  by_cases h0 : e = 0
  · subst h0
    by_cases hn0 : 0 < n
    · have h1 : ended l 0 = 9 := by unfold ended; rw [if_pos ⟨rfl, by rw [HL.out]; exact hn0⟩]
      have h2 : (0 : Int) < n := by omega
      rw [h1]
      clear h1
      go_enter Try.func85, Try.ntmps85
      go_wp2_with fail
      go_ret
      exact ⟨rfl, rfl⟩
    · have h1 : ended l 0 = 0 := by unfold ended; rw [if_neg (by rw [HL.out]; omega)]
      have h2 : ¬ (0 : Int) < n := by omega
      rw [h1]
      clear h1
      go_enter Try.func85, Try.ntmps85
      go_wp2_with fail
      go_ret
      exact ⟨rfl, rfl⟩
  · have he : (e == 0) = false := by rw [beq_eq_false_iff_ne]; exact h0
    have h1 : ended l e = e := by unfold ended; rw [if_neg (by omega)]
    rw [h1]
    clear h1
    go_enter Try.func85, Try.ntmps85
    go_wp2_with fail
    go_ret
    exact ⟨rfl, rfl⟩


/-! ### the reader's bytes lie elsewhere than its own block -/
theorem new_Q (A : Option Addr) (n c : Nat) (l : List UInt8) (w : World) (hA : Bs w A n l) (hn : n ≤ 140737488355328) :
    Calls Try.prog 80 #[.slice A n c] w fun r w' => ∃ g, r = .returned (.pointer (some ⟨g, 0, none⟩)) ∧ w.heap.size ≤ g ∧ g < w'.heap.size ∧ CRP (fun b => b < g) w' g l 0 ∧ Below w.heap.size w w' := by
  go_enter Try.func80, Try.ntmps80
  go_wp2_with (go_at_call 63; refine Calls.mono (clone_any _ _ _ l _ hA hn) ?_; rintro r w1 ⟨v1, rfl, hown1, hb1⟩; obtain ⟨B, d, rfl, q1, q2, q3, _⟩ := own_slice hown1)
  go_ret
  refine ⟨_, rfl, hb1.size, by simp, ⟨B, n, d, heap_at_new _ _ rfl, Bs.alloc q3 _, q1, by simpa [maxLen] using q2, fun a e => ?_⟩, hb1.alloc hb1.size _⟩
  subst e
  have hlt : a.block < w1.heap.size := by
    obtain ⟨g, _, _, hv, h1, h2⟩ : ∃ g c' cur, (some a : Option Addr) = some ⟨g, 0, none⟩ ∧ w1.heap[g]? = some (.cells cur 5 (0, 0)) ∧ c' = c' := by
      rcases hown1.2 with ⟨h, _⟩ | ⟨g, cap, cur, hv, _, hh, _⟩
      · cases h
      · injection hv with hv _ _
        exact ⟨g, cap, cur, hv, hh, rfl⟩
    injection hv with hv
    subst hv
    exact (Array.getElem?_eq_some_iff.1 h1).1
  exact hlt
theorem CRP.below {Q : Nat → Prop} {W W' : World} {g : Nat} {l : List UInt8} {e : Int} (h : CRP Q W g l e) (hb : Below W.heap.size W W') : CRP Q W' g l e := by
  obtain ⟨A, n, c, hg, hB, hn, hc, ha⟩ := h
  exact ⟨A, n, c, by rw [hb.block g (Array.getElem?_eq_some_iff.1 hg).1]; exact hg, hB.below hb, hn, hc, ha⟩
/-- another block was written -/
theorem CRP.other {Q : Nat → Prop} {W W' : World} {g g2 : Nat} {l : List UInt8} {e : Int} (h : CRP Q W g l e) (hg2 : W.grownBy W' (some g2)) (hne : g ≠ g2) (hQ : ∀ b, Q b → b ≠ g2) : CRP Q W' g l e := by
  obtain ⟨A, n, c, hg, hB, hn, hc, ha⟩ := h
  refine ⟨A, n, c, ?_, hB.grownKeep hg2 (ha.away hQ), hn, hc, ha⟩
  rw [hg2.block g (Array.getElem?_eq_some_iff.1 hg).1 (fun h => hne (by injection h))]
  exact hg
theorem CR.below {W W' : World} {g : Nat} {l : List UInt8} {e : Int} (h : CR W g l e) (hb : Below W.heap.size W W') : CR W' g l e := by
  obtain ⟨A, n, c, hg, hB, hn, hc, ha⟩ := h
  exact ⟨A, n, c, by rw [hb.block g (Array.getElem?_eq_some_iff.1 hg).1]; exact hg, hB.below hb, hn, hc, ha⟩
theorem taken_bad (l : List UInt8) {e : Int} (k : Nat) (he : e ≠ 0) : taken l e k = ([], l, e) := by
  unfold taken; rw [if_neg (by omega), if_pos he]
theorem textOf_bad (l : List UInt8) {e : Int} (he : e ≠ 0) : textOf l e = ([], l, e) := by
  unfold textOf; rw [taken_bad l 2 he]; exact taken_bad l _ he
end Go.Proofs.Ytcpifcdndhhmgaa
