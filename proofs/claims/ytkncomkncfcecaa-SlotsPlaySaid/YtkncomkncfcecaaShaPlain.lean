/- code's reader: what each of its calls returns and leaves. What was written is read as it was: plain. The sum SHA-256 of a list of bytes, plainly. No program in sight. -/
import Derived.Test.YtkncomkncfcecaaChecked
import Derived.Test.YtkncomkncfcecaaFlashMem
import Derived.Test.YtkncomkncfcecaaCodeText
import Derived.Deep.DeepCutAuto
import Derived.Test.YtkncomkncfcecaaLib
set_option linter.unusedVariables false
set_option linter.unusedSimpArgs false
namespace Go.Proofs.Ytkncomkncfcecaa
open Go.RowKit
theorem Away.from_ {g : Nat} {A : Option Addr} (h : Away g A) (cap k : Nat) : Away g (if cap = k then A else A.map (·.add k)) := by
  split
  · exact h
  · intro b e
    cases A with
    | none => cases e
    | some a =>
      simp only [Option.map_some, Option.some.injEq] at e
      subst e
      rw [block_add]
      exact h _ rfl
theorem InQ.from_ {Q : Nat → Prop} {A : Option Addr} (h : InQ Q A) (cap k : Nat) : InQ Q (if cap = k then A else A.map (·.add k)) := by
  split
  · exact h
  · intro b e
    cases A with
    | none => cases e
    | some a =>
      simp only [Option.map_some, Option.some.injEq] at e
      subst e
      rw [block_add]
      exact h _ rfl
def CRP (Q : Nat → Prop) (W : World) (g : Nat) (l : List UInt8) (e : Int) : Prop :=
  ∃ A n c, W.heap[g]? = some (.cells #[.slice A n c, .int .i64 e] 124 (0, 0)) ∧ Bs W A n l ∧ n ≤ c ∧ c ≤ 9223372036854775807 ∧ InQ Q A
def CR (W : World) (g : Nat) (l : List UInt8) (e : Int) : Prop := CRP (fun b => b ≠ g) W g l e
def taken (l : List UInt8) (e : Int) (k : Nat) : List UInt8 × List UInt8 × Int :=
  if e = 0 ∧ l.length < k then ([], l, 8) else if e ≠ 0 then ([], l, e) else (l.take k, l.drop k, 0)
set_option maxRecDepth 100000 in
theorem take_Q (Q : Nat → Prop) (g : Nat) (hQ : ∀ b, Q b → b ≠ g) (l : List UInt8) (e : Int) (k : Nat) (w : World) (h : CRP Q w g l e) (hk : k ≤ 1099511627776) :
    Calls Try.prog 104 #[.pointer (some ⟨g, 0, none⟩), .int .i64 k] w fun r w' => ∃ A n c, r = .returned (.slice A n c) ∧ Bs w' A n (taken l e k).1 ∧ n ≤ c ∧ c ≤ 9223372036854775807 ∧ InQ Q A ∧
      CRP Q w' g (taken l e k).2.1 (taken l e k).2.2 ∧ w.grownBy w' (some g) := by
  obtain ⟨A, n, c, hg, hB, hn, hc, ha⟩ := h
  have hl := hB.len
  have c0 : w.cell? ⟨g, 0, none⟩ = some (.slice A n c) := Z4 hg rfl
  have c1 : w.cell? ⟨g, 1, none⟩ = some (.int .i64 e) := Z4 hg rfl
  have f0 : w.frozen? ⟨g, 0, none⟩ = false := Z6 hg
  have f1 : w.frozen? ⟨g, 1, none⟩ = false := Z6 hg
  have HG := Lib.hid hg
  clear hg
  by_cases h0 : e = 0
  · subst h0
    by_cases hlt : n < k
    · have ht : taken l 0 k = ([], l, 8) := by unfold taken; rw [if_pos ⟨rfl, by omega⟩]
      have HT := Lib.hid ht
      have HL := Lib.hid hl
      have hlt' : (n : Int) < k := by omega
      clear ht hl
      go_enter Try.func104, Try.ntmps104
      go_wp2_with fail
      go_ret
      rw [HT.out]
      have h2 := ZB (i := 1) (.int .i64 8) HG.out
      exact ⟨_, _, _, rfl, Bs.nil _ _, Nat.le_refl _, by omega, Wz Q, ⟨A, n, c, h2, hB.grownKeep (ZJ _ _ _ _) (ha.away hQ), hn, hc, ha⟩, ZJ _ _ _ _⟩
    · have ht : taken l 0 k = (l.take k, l.drop k, 0) := by unfold taken; rw [if_neg (by omega), if_neg (by simp)]
      have HT := Lib.hid ht
      have HL := Lib.hid hl
      have hlt' : ¬ (n : Int) < k := by omega
      have hk1 : (k : Int) ≤ n := by omega
      have hk2 : (k : Int) ≤ c := by omega
      have hk0 : (0 : Int) ≤ k := by omega
      clear ht hl
      go_enter Try.func104, Try.ntmps104
      go_wp2_with fail
      all_goals
        go_ret
        rw [HT.out]
        have hl := HL.out
        have h1 := hB.to_ (k := k) (by omega)
        have h2 := hB.from_ (k := k) (by omega) hn
        have h3 := ha.from_ c k
        first
          | (have hck' : c = k := h; rw [if_pos hck'] at h2 h3)
          | (have hck' : ¬ c = k := h; rw [if_neg hck'] at h2 h3)
        refine ⟨_, _, _, rfl, h1.grownKeep (ZJ _ _ _ _) (ha.away hQ), by omega, by omega, ha, ⟨_, _, _, ZB (i := 0) _ HG.out, h2.grownKeep (ZJ _ _ _ _) (h3.away hQ), by omega, by omega, h3⟩, ZJ _ _ _ _⟩
  · have ht : taken l e k = ([], l, e) := by unfold taken; rw [if_neg (by omega), if_pos h0]
    have HT := Lib.hid ht
    have HL := Lib.hid hl
    have he : (e == 0) = false := by rw [beq_eq_false_iff_ne]; exact h0
    have he2 : (e != 0) = true := by rw [bne_iff_ne]; exact h0
    clear ht hl
    go_enter Try.func104, Try.ntmps104
    go_wp2_with fail
    go_ret
    rw [HT.out]
    exact ⟨_, _, _, rfl, Bs.nil _ _, Nat.le_refl _, by omega, Wz Q, ⟨A, n, c, HG.out, hB, hn, hc, ha⟩, ZG _ _⟩
theorem XL (l : List UInt8) (e : Int) (k : Nat) : (taken l e k).1.length ≤ k := by
  unfold taken
  split
  · simp
  · split
    · simp
    · simp; omega
set_option maxRecDepth 100000 in
theorem number_Q (Q : Nat → Prop) (g : Nat) (hQ : ∀ b, Q b → b ≠ g) (l : List UInt8) (e : Int) (k : Nat) (w : World) (h : CRP Q w g l e) (hk : k ≤ 8) :
    Calls Try.prog 97 #[.pointer (some ⟨g, 0, none⟩), .int .i64 k] w fun r w' => r = .returned (.int .i64 (wrap64 (leN (taken l e k).1 : Int))) ∧
      CRP Q w' g (taken l e k).2.1 (taken l e k).2.2 ∧ w.grownBy w' (some g) := by
  have hlen := XL l e k
  go_enter Try.func97, Try.ntmps97
  go_wp2_with (go_at_call 104; refine Calls.mono (take_Q Q g hQ l e k _ h (by omega)) ?_; rintro r w1 ⟨A, n, c, rfl, hB, hn, hc, ha, hcr, hgr⟩)
  generalize ht0 : (taken l e k).1 = t at hB hlen
  have HT0 := Lib.hid ht0
  clear ht0
  have hl := hB.len
  have HL := Lib.hid hl
  clear hl
  go_loop [5, 6, 7, 12] (fun u _ _ i => ∃ (j : Nat) (s : Nat), j ≤ n ∧ i = .int .i64 j ∧ u = .int .u64 s ∧ Hid (s = leN (t.take j))) (fun _ _ _ i => n - (intOf i).toNat)
  case atStart => exact ⟨0, 0, Nat.zero_le _, rfl, rfl, rfl⟩
  case round =>
    obtain ⟨j, s, hj, rfl, rfl, hs⟩ := hrel
    have hn8 : n ≤ 8 := by rw [← HL.out]; omega
    by_cases hlt : j < n
    · have hjn : (j : Int) < n := by omega
      have hj0 : (0 : Int) ≤ j := by omega
      have hj8 : (j : Int) < 8 := by omega
      obtain ⟨b, o, x, rfl, hcell, ht, hx⟩ := hB.next hlt
      have hs1 : leN (t.take (j + 1)) = s + x.toNat * 2 ^ (8 * j) := by
        have hjl : (t.take j).length = j := by rw [List.length_take, HL.out]; omega
        rw [ht.out, leN_append, leN_one, hjl, ← hs.out, Nat.mul_comm, Nat.pow_mul]
      have hs2 : s < 2 ^ (8 * j) := by
        have hjl : (t.take j).length = j := by rw [List.length_take, HL.out]; omega
        have := leN_lt (t.take j)
        rw [hjl, ← hs.out] at this
        rw [Nat.pow_mul]; exact this
      have hs3 : x.toNat * 2 ^ (8 * j) + s < 18446744073709551616 := by
        have h1 := leN_lt (t.take (j + 1))
        have hjl : (t.take (j + 1)).length = j + 1 := by rw [List.length_take, HL.out]; omega
        rw [hjl, hs1] at h1
        have h2 : 256 ^ (j + 1) ≤ 256 ^ 8 := Nat.pow_le_pow_right (by omega) (by omega)
        have h3 : 256 ^ 8 = 18446744073709551616 := by decide
        omega
      have hor := u64_or_join s x.toNat (8 * j) hs2 hs3
      have HS := Lib.hid hs1
      have HO := Lib.hid hor
      clear hs1 hor
      have hxl := ZS x
      go_wp2_with fail
      refine ⟨⟨j + 1, s + x.toNat * 2 ^ (8 * j), by omega, by go_num, ?_, HS.out.symm⟩, by simp [intOf]; omega⟩
      have e3 : ((x.toNat : Int) * 2 ^ (8 * j)) = ((x.toNat * 2 ^ (8 * j) : Nat) : Int) := by rw [Int.natCast_mul, Int.natCast_pow]; rfl
      rw [e3, IntWalk.u64_in _ (by generalize x.toNat * 2 ^ (8 * j) = y at hs3; omega), HO.out]
    · obtain rfl : j = n := by omega
      have e1 : leN (t.take j) = leN t := by rw [List.take_of_length_le (by rw [HL.out]; omega)]
      rw [e1] at hs
      go_wp2_with fail
      go_ret
      exact ⟨by rw [HT0.out, ← hs.out]; rfl, hcr, hgr⟩
theorem readInt_Q (Q : Nat → Prop) (g : Nat) (hQ : ∀ b, Q b → b ≠ g) (l : List UInt8) (e : Int) (w : World) (h : CRP Q w g l e) :
    Calls Try.prog 76 #[.pointer (some ⟨g, 0, none⟩)] w fun r w' => r = .returned (.int .i64 (wrap64 (leN (taken l e 8).1 : Int))) ∧
      CRP Q w' g (taken l e 8).2.1 (taken l e 8).2.2 ∧ w.grownBy w' (some g) := by
  obtain ⟨A, n, c, hg, _⟩ := id h
  have c0 : w.cell? ⟨g, 0, none⟩ = some (.slice A n c) := Z4 hg rfl
  clear hg
  go_enter Try.func76, Try.ntmps76
  go_wp2_with (go_at_call 97; refine Calls.mono (number_Q Q g hQ l e 8 _ h (by omega)) ?_; rintro r w1 ⟨rfl, hcr, hgr⟩)
  go_ret
  exact ⟨rfl, hcr, hgr⟩
theorem readByte_Q (Q : Nat → Prop) (g : Nat) (hQ : ∀ b, Q b → b ≠ g) (l : List UInt8) (e : Int) (w : World) (h : CRP Q w g l e) :
    Calls Try.prog 77 #[.pointer (some ⟨g, 0, none⟩)] w fun r w' => r = .returned (.int .i64 (leN (taken l e 1).1 : Int)) ∧
      CRP Q w' g (taken l e 1).2.1 (taken l e 1).2.2 ∧ w.grownBy w' (some g) := by
  have hle : leN (taken l e 1).1 < 256 := by
    have h1 := leN_lt (taken l e 1).1
    have h2 := XL l e 1
    have h3 : 256 ^ (taken l e 1).1.length ≤ 256 ^ 1 := Nat.pow_le_pow_right (by omega) h2
    omega
  have hw : wrap64 (leN (taken l e 1).1 : Int) = leN (taken l e 1).1 := by unfold wrap64; omega
  have HW := Lib.hid hw
  clear hw
  go_enter Try.func77, Try.ntmps77
  go_wp2_with (go_at_call 97; refine Calls.mono (number_Q Q g hQ l e 1 _ h (by omega)) ?_; rintro r w1 ⟨rfl, hcr, hgr⟩; rw [HW.out])
  go_ret
  exact ⟨rfl, hcr, hgr⟩
def textOf (l : List UInt8) (e : Int) : List UInt8 × List UInt8 × Int :=
  taken (taken l e 2).2.1 (taken l e 2).2.2 (leN (taken l e 2).1)
def ended (l : List UInt8) (e : Int) : Int := if e = 0 ∧ 0 < l.length then 9 else e
theorem end_Q (Q : Nat → Prop) (g : Nat) (hQ : ∀ b, Q b → b ≠ g) (l : List UInt8) (e : Int) (w : World) (h : CRP Q w g l e) :
    Calls Try.prog 78 #[.pointer (some ⟨g, 0, none⟩)] w fun r w' => r = .returned (.int .i64 (ended l e)) ∧ w = w' := by
  obtain ⟨A, n, c, hg, hB, hn, hc, ha⟩ := h
  have c0 : w.cell? ⟨g, 0, none⟩ = some (.slice A n c) := Z4 hg rfl
  have c1 : w.cell? ⟨g, 1, none⟩ = some (.int .i64 e) := Z4 hg rfl
  clear hg
  have hl := hB.len
  have HL := Lib.hid hl
  clear hl
  by_cases h0 : e = 0
  · subst h0
    by_cases hn0 : 0 < n
    · have h1 : ended l 0 = 9 := by unfold ended; rw [if_pos ⟨rfl, by rw [HL.out]; exact hn0⟩]
      have h2 : (0 : Int) < n := by omega
      rw [h1]
      clear h1
      go_enter Try.func78, Try.ntmps78
      go_wp2_with fail
      go_ret
      exact ⟨rfl, rfl⟩
    · have h1 : ended l 0 = 0 := by unfold ended; rw [if_neg (by rw [HL.out]; omega)]
      have h2 : ¬ (0 : Int) < n := by omega
      rw [h1]
      clear h1
      go_enter Try.func78, Try.ntmps78
      go_wp2_with fail
      go_ret
      exact ⟨rfl, rfl⟩
  · have he : (e == 0) = false := by rw [beq_eq_false_iff_ne]; exact h0
    have h1 : ended l e = e := by unfold ended; rw [if_neg (by omega)]
    rw [h1]
    clear h1
    go_enter Try.func78, Try.ntmps78
    go_wp2_with fail
    go_ret
    exact ⟨rfl, rfl⟩
/-! ### the reader's bytes lie elsewhere than its own block -/
theorem new_Q (A : Option Addr) (n c : Nat) (l : List UInt8) (w : World) (hA : Bs w A n l) (hn : n ≤ 140737488355328) :
    Calls Try.prog 75 #[.slice A n c] w fun r w' => ∃ g, r = .returned (.pointer (some ⟨g, 0, none⟩)) ∧ w.heap.size ≤ g ∧ g < w'.heap.size ∧ CRP (fun b => b < g) w' g l 0 ∧ Below w.heap.size w w' := by
  go_enter Try.func75, Try.ntmps75
  go_wp2_with (go_at_call 82; refine Calls.mono (Wr _ _ _ l _ hA hn) ?_; rintro r w1 ⟨v1, rfl, hown1, hb1⟩; obtain ⟨B, d, rfl, q1, q2, q3, _⟩ := ZP hown1)
  go_ret
  refine ⟨_, rfl, hb1.size, by simp, ⟨B, n, d, WJ _ _ rfl, Bs.alloc q3 _, q1, by simpa [maxLen] using q2, fun a e => ?_⟩, hb1.alloc hb1.size _⟩
  subst e
  have hlt : a.block < w1.heap.size := by
    obtain ⟨g, _, _, hv, h1, h2⟩ : ∃ g c' cur, (some a : Option Addr) = some ⟨g, 0, none⟩ ∧ w1.heap[g]? = some (.cells cur 5 (0, 0)) ∧ c' = c' := by
      rcases hown1.2 with ⟨h, _⟩ | ⟨g, cap, cur, hv, _, hh, _⟩
      · cases h
      · injection hv with hv _ _
        exact ⟨g, cap, cur, hv, hh, rfl⟩
    injection hv with hv
    subst hv
    exact (Array.getElem?_eq_some_iff.1 h1).1
  exact hlt
theorem CRP.weak {Q Q' : Nat → Prop} {W : World} {g : Nat} {l : List UInt8} {e : Int} (h : CRP Q W g l e) (hq : ∀ b, Q b → Q' b) : CRP Q' W g l e := by
  obtain ⟨A, n, c, hg, hB, hn, hc, ha⟩ := h
  exact ⟨A, n, c, hg, hB, hn, hc, fun a e => hq _ (ha a e)⟩
theorem CRP.below {Q : Nat → Prop} {W W' : World} {g : Nat} {l : List UInt8} {e : Int} (h : CRP Q W g l e) (hb : Below W.heap.size W W') : CRP Q W' g l e := by
  obtain ⟨A, n, c, hg, hB, hn, hc, ha⟩ := h
  exact ⟨A, n, c, by rw [hb.block g (Array.getElem?_eq_some_iff.1 hg).1]; exact hg, hB.below hb, hn, hc, ha⟩
theorem CRP.other {Q : Nat → Prop} {W W' : World} {g g2 : Nat} {l : List UInt8} {e : Int} (h : CRP Q W g l e) (hg2 : W.grownBy W' (some g2)) (hne : g ≠ g2) (hQ : ∀ b, Q b → b ≠ g2) : CRP Q W' g l e := by
  obtain ⟨A, n, c, hg, hB, hn, hc, ha⟩ := h
  refine ⟨A, n, c, ?_, hB.grownKeep hg2 (ha.away hQ), hn, hc, ha⟩
  rw [hg2.block g (Array.getElem?_eq_some_iff.1 hg).1 (fun h => hne (by injection h))]
  exact hg
theorem CR.below {W W' : World} {g : Nat} {l : List UInt8} {e : Int} (h : CR W g l e) (hb : Below W.heap.size W W') : CR W' g l e := by
  obtain ⟨A, n, c, hg, hB, hn, hc, ha⟩ := h
  exact ⟨A, n, c, by rw [hb.block g (Array.getElem?_eq_some_iff.1 hg).1]; exact hg, hB.below hb, hn, hc, ha⟩
end Go.Proofs.Ytkncomkncfcecaa
set_option linter.unusedVariables false
set_option linter.unusedSimpArgs false
namespace Go.Proofs.Ytkncomkncfcecaa
open Go.RowKit
def tkN (t : List UInt8 × List UInt8 × Int) : Int := wrap64 (leN t.1 : Int)
theorem leN_head (l : List UInt8) (h : l.length ≤ 1) : leN l = (l.headD 0).toNat := by
  match l, h with
  | [], _ => rfl
  | [x], _ => simp [leN]
theorem taken_ok (a m : List UInt8) (k : Nat) (h : a.length = k) : taken (a ++ m) 0 k = (a, m, 0) := by
  unfold taken
  rw [if_neg (by simp; omega), if_neg (by simp), ← h, List.take_left, List.drop_left]
theorem leN_le8 (x : Int) : (leN (le8 x) : Int) = x % 18446744073709551616 := by
  have h : ∀ k, k ≤ 8 → (leN ((le8 x).take k) : Int) = x % 18446744073709551616 % 2 ^ (8 * k) := by
    intro k
    induction k with
    | zero => intro _; simp [leN, Int.emod_one]
    | succ k ih =>
      intro hk
      have hkl : ((le8 x).take k).length = k := by rw [List.length_take, Xg]; omega
      rw [le8_next x k (by omega), leN_append, leN_one, hkl]
      have h1 := ih (by omega)
      have h2 := WN x k
      have hy : 0 ≤ x % 18446744073709551616 := Int.emod_nonneg _ (by decide)
      generalize x % 18446744073709551616 = y at h1 h2 hy ⊢
      obtain ⟨n, rfl⟩ := Int.eq_ofNat_of_zero_le hy
      have h3 : (2 : Int) ^ (8 * (k + 1)) = 2 ^ (8 * k) * 256 := by
        rw [show 8 * (k + 1) = 8 * k + 8 by omega, Int.pow_add]; rfl
      have h4 : ((256 ^ k : Nat) : Int) = 2 ^ (8 * k) := by rw [Int.pow_mul, Int.natCast_pow]; rfl
      rw [h3, Int.natCast_add, Int.natCast_mul, h1, h2, ← h4]
      generalize 256 ^ k = q
      have h5 := @Nat.mod_mul q 256 n
      have h6 : ((n % (q * 256) : Nat) : Int) = ((n % q + q * (n / q % 256) : Nat) : Int) := by rw [h5]
      simpa using h6.symm
  have := h 8 (Nat.le_refl _)
  rw [le8_all] at this
  rw [this]
  omega
theorem int_back (x : Int) (hx : -9223372036854775808 ≤ x ∧ x ≤ 9223372036854775807) : wrap64 (leN (le8 x) : Int) = x := by
  rw [leN_le8]; unfold wrap64; omega
end Go.Proofs.Ytkncomkncfcecaa
set_option linter.unusedVariables false
set_option linter.unusedSimpArgs false
namespace Go.Proofs.Ytkncomkncfcecaa
open Go.RowKit
abbrev W32 := BitVec 32
def ror (x : W32) (n : Nat) : W32 := (x >>> n) ||| (x <<< (32 - n))
abbrev uv (x : W32) : Value := .int .u32 (x.toNat : Int)
def wv (l : List W32) : List Value := l.map fun x => .int .u32 (x.toNat : Int)
structure ShaSt where
  a : W32
  b : W32
  c : W32
  d : W32
  e : W32
  f : W32
  g : W32
  h : W32
def ShaSt.words (s : ShaSt) : List W32 := [s.a, s.b, s.c, s.d, s.e, s.f, s.g, s.h]
def sig0 (x : W32) : W32 := ror x 7 ^^^ ror x 18 ^^^ (x >>> 3)
def sig1 (x : W32) : W32 := ror x 17 ^^^ ror x 19 ^^^ (x >>> 10)
def byteW (x : UInt8) : W32 := BitVec.ofNat 32 x.toNat
def be4 (x0 x1 x2 x3 : UInt8) : W32 := (byteW x0 <<< 24) ||| (byteW x1 <<< 16) ||| (byteW x2 <<< 8) ||| byteW x3
def be32 (l : List UInt8) (q : Nat) : W32 := be4 (l.getD q 0) (l.getD (q + 1) 0) (l.getD (q + 2) 0) (l.getD (q + 3) 0)
def wl (b : List UInt8) : Nat → List W32
  | 0 => []
  | i + 1 => wl b i ++ [if i < 16 then be32 b (4 * i) else (wl b i).getD (i - 16) 0 + sig0 ((wl b i).getD (i - 15) 0) + (wl b i).getD (i - 7) 0 + sig1 ((wl b i).getD (i - 2) 0)]
theorem YJ (b : List UInt8) (i : Nat) : (wl b i).length = i := by
  induction i with
  | zero => rfl
  | succ i ih => simp [wl, ih]
def ks : List W32 := [
  0x428a2f98, 0x71374491, 0xb5c0fbcf, 0xe9b5dba5, 0x3956c25b, 0x59f111f1, 0x923f82a4, 0xab1c5ed5,
  0xd807aa98, 0x12835b01, 0x243185be, 0x550c7dc3, 0x72be5d74, 0x80deb1fe, 0x9bdc06a7, 0xc19bf174,
  0xe49b69c1, 0xefbe4786, 0x0fc19dc6, 0x240ca1cc, 0x2de92c6f, 0x4a7484aa, 0x5cb0a9dc, 0x76f988da,
  0x983e5152, 0xa831c66d, 0xb00327c8, 0xbf597fc7, 0xc6e00bf3, 0xd5a79147, 0x06ca6351, 0x14292967,
  0x27b70a85, 0x2e1b2138, 0x4d2c6dfc, 0x53380d13, 0x650a7354, 0x766a0abb, 0x81c2c92e, 0x92722c85,
  0xa2bfe8a1, 0xa81a664b, 0xc24b8b70, 0xc76c51a3, 0xd192e819, 0xd6990624, 0xf40e3585, 0x106aa070,
  0x19a4c116, 0x1e376c08, 0x2748774c, 0x34b0bcb5, 0x391c0cb3, 0x4ed8aa4a, 0x5b9cca4f, 0x682e6ff3,
  0x748f82ee, 0x78a5636f, 0x84c87814, 0x8cc70208, 0x90befffa, 0xa4506ceb, 0xbef9a3f7, 0xc67178f2]
def st0 : ShaSt := ⟨0x6a09e667, 0xbb67ae85, 0x3c6ef372, 0xa54ff53a, 0x510e527f, 0x9b05688c, 0x1f83d9ab, 0x5be0cd19⟩
def shaX (t : ShaSt) (k w : W32) : W32 := t.h + (ror t.e 6 ^^^ ror t.e 11 ^^^ ror t.e 25) + ((t.e &&& t.f) ^^^ (~~~t.e &&& t.g)) + k + w
def shaY (t : ShaSt) : W32 := (ror t.a 2 ^^^ ror t.a 13 ^^^ ror t.a 22) + ((t.a &&& t.b) ^^^ (t.a &&& t.c) ^^^ (t.b &&& t.c))
def shaRound (t : ShaSt) (k w : W32) : ShaSt := ⟨shaX t k w + shaY t, t.a, t.b, t.c, t.d + shaX t k w, t.e, t.f, t.g⟩
def rounds (b : List UInt8) (s : ShaSt) : Nat → ShaSt
  | 0 => s
  | i + 1 => shaRound (rounds b s i) (ks.getD i 0) ((wl b 64).getD i 0)
def addSt (s t : ShaSt) : ShaSt := ⟨t.a + s.a, t.b + s.b, t.c + s.c, t.d + s.d, t.e + s.e, t.f + s.f, t.g + s.g, t.h + s.h⟩
def addW (t s : List W32) (j : Nat) : List W32 := (List.zipWith (· + ·) t s).take j ++ t.drop j
theorem length_addW (t s : List W32) (h : t.length = s.length) (j : Nat) (hj : j ≤ t.length) : (addW t s j).length = t.length := by
  unfold addW
  rw [List.length_append, List.length_take, List.length_zipWith, List.length_drop]
  omega
theorem addW_get (t s : List W32) (h : t.length = s.length) (j : Nat) (hj : j < t.length) : (addW t s j).getD j 0 = t.getD j 0 := by
  unfold addW
  rw [List.getD_eq_getElem?_getD, List.getElem?_append_right (by rw [List.length_take, List.length_zipWith]; omega), List.length_take, List.length_zipWith, List.getElem?_drop, List.getD_eq_getElem?_getD]
  congr 2
  omega
theorem addW_set (t s : List W32) (h : t.length = s.length) (j : Nat) (hj : j < t.length) : (addW t s j).set j (t.getD j 0 + s.getD j 0) = addW t s (j + 1) := by
  unfold addW
  have hz : ((List.zipWith (· + ·) t s).take j).length = j := by rw [List.length_take, List.length_zipWith]; omega
  rw [List.set_append_right _ _ (by omega), hz, Nat.sub_self, List.drop_eq_getElem_cons hj, List.set_cons_zero, List.take_succ_eq_append_getElem (by rw [List.length_zipWith]; omega), List.append_assoc]
  simp [hj, show j < s.length by omega]
theorem addW_all (s t : ShaSt) : addW t.words s.words 8 = (addSt s t).words := rfl
def comp (s : ShaSt) (b : List UInt8) : ShaSt := addSt s (rounds b s 64)
def zeros (n : Nat) : Nat := (119 - n % 64) % 64
def lenBytes (n : Nat) : Nat → List UInt8
  | 0 => []
  | i + 1 => lenBytes n i ++ [UInt8.ofNat (n * 8 / 2 ^ (56 - 8 * i))]
def padZ (l : List UInt8) (k : Nat) : List UInt8 := l ++ [0x80] ++ List.replicate k 0
def padL (l : List UInt8) (j : Nat) : List UInt8 := padZ l (zeros l.length) ++ lenBytes l.length j
theorem padZ_next (l : List UInt8) (k : Nat) : padZ l k ++ [0] = padZ l (k + 1) := by
  unfold padZ
  rw [List.append_assoc, ← List.replicate_succ']
theorem padL_next (l : List UInt8) (j : Nat) (x : UInt8) (hx : x = UInt8.ofNat (l.length * 8 / 2 ^ (56 - 8 * j))) : padL l j ++ [x] = padL l (j + 1) := by
  subst hx
  unfold padL
  rw [List.append_assoc]
  rfl
theorem zeros_lt (N k : Nat) (h : k < zeros N) : (N + 1 + k) % 64 ≠ 56 := by unfold zeros at h; omega
theorem zeros_eq (N : Nat) : (N + 1 + zeros N) % 64 = 56 := by unfold zeros; omega
def padS (l : List UInt8) : List UInt8 := l ++ [0x80] ++ List.replicate (zeros l.length) 0 ++ lenBytes l.length 8
def blks (all : List UInt8) : Nat → ShaSt
  | 0 => st0
  | j + 1 => comp (blks all j) ((all.drop (64 * j)).take 64)
def outB (l : List W32) : Nat → List UInt8
  | 0 => []
  | i + 1 => outB l i ++ [UInt8.ofNat ((l.getD (i / 4) 0).toNat / 2 ^ (24 - 8 * (i % 4)))]
theorem Xh (l : List W32) (i : Nat) : (outB l i).length = i := by
  induction i with
  | zero => rfl
  | succ i ih => simp [outB, ih]
def sha (l : List UInt8) : List UInt8 := outB (blks (padS l) ((padS l).length / 64)).words 32
theorem Xv (l : List UInt8) : (sha l).length = 32 := Xh _ _
theorem padS_eq (l : List UInt8) : padS l = padL l 8 := rfl
/-! ### in the spelling of the walk -/
theorem W7 (x : UInt8) : (x.toNat : Int) % 4294967296 = ((byteW x).toNat : Int) := by
  unfold byteW
  rw [BitVec.toNat_ofNat]
  omega
theorem shl_code (a : W32) (k : Nat) (m : Nat) (hm : m = 2 ^ k) : (a.toNat : Int) * (m : Int) % 4294967296 = ((a <<< k).toNat : Int) := by
  rw [BitVec.toNat_shiftLeft, Nat.shiftLeft_eq, hm]
  omega
theorem be4_code (x0 x1 x2 x3 : UInt8) : bits .or .u32 (bits .or .u32 (bits .or .u32 ((x0.toNat : Int) % 4294967296 * 16777216 % 4294967296) ((x1.toNat : Int) % 4294967296 * 65536 % 4294967296)) ((x2.toNat : Int) % 4294967296 * 256 % 4294967296)) ((x3.toNat : Int) % 4294967296) = ((be4 x0 x1 x2 x3).toNat : Int) := by
  rw [W7, W7, W7, W7]
  have h0 : ((byteW x0).toNat : Int) * 16777216 % 4294967296 = _ := shl_code (byteW x0) 24 16777216 rfl
  have h1 : ((byteW x1).toNat : Int) * 65536 % 4294967296 = _ := shl_code (byteW x1) 16 65536 rfl
  have h2 : ((byteW x2).toNat : Int) * 256 % 4294967296 = _ := shl_code (byteW x2) 8 256 rfl
  rw [h0, h1, h2, u32_or_bv, u32_or_bv, u32_or_bv]
  rfl
theorem shr_code (a : W32) (k : Nat) (m : Nat) (hm : m = 2 ^ k) : (a.toNat : Int) / (m : Int) = ((a >>> k).toNat : Int) := by
  rw [BitVec.toNat_ushiftRight, Nat.shiftRight_eq_div_pow, hm]
  omega
theorem add4_code (a b c d : W32) : ((a.toNat : Int) + b.toNat + c.toNat + d.toNat) % 4294967296 = ((a + b + c + d).toNat : Int) := by
  rw [BitVec.toNat_add, BitVec.toNat_add, BitVec.toNat_add]
  omega
theorem sig0_code (x : W32) : bits .xor .u32 (bits .xor .u32 ((ror x 7).toNat : Int) ((ror x 18).toNat : Int)) ((x.toNat : Int) / 8) = ((sig0 x).toNat : Int) := by
  have h : (x.toNat : Int) / 8 = _ := shr_code x 3 8 rfl
  rw [h, Yh, Yh]
  rfl
theorem sig1_code (x : W32) : bits .xor .u32 (bits .xor .u32 ((ror x 17).toNat : Int) ((ror x 19).toNat : Int)) ((x.toNat : Int) / 1024) = ((sig1 x).toNat : Int) := by
  have h : (x.toNat : Int) / 1024 = _ := shr_code x 10 1024 rfl
  rw [h, Yh, Yh]
  rfl
theorem next_code (a b c d : W32) : ((a.toNat : Int) + bits .xor .u32 (bits .xor .u32 ((ror b 7).toNat : Int) ((ror b 18).toNat : Int)) ((b.toNat : Int) / 8) + c.toNat +
    bits .xor .u32 (bits .xor .u32 ((ror d 17).toNat : Int) ((ror d 19).toNat : Int)) ((d.toNat : Int) / 1024)) % 4294967296 = ((a + sig0 b + c + sig1 d).toNat : Int) := by
  rw [sig0_code, sig1_code, add4_code]
theorem next_ref (a b c d : W32) : (bits .xor .u32 (bits .xor .u32 ((ror d 17).toNat : Int) ((ror d 19).toNat : Int)) ((d.toNat : Int) / 1024) + c.toNat +
    bits .xor .u32 (bits .xor .u32 ((ror b 7).toNat : Int) ((ror b 18).toNat : Int)) ((b.toNat : Int) / 8) + a.toNat) % 4294967296 = ((a + sig0 b + c + sig1 d).toNat : Int) := by
  rw [sig0_code, sig1_code, ← add4_code]
  congr 1
  omega
theorem Xt (a b : W32) : IntKind.u32.wrap ((a.toNat : Int) + b.toNat) = ((a + b).toNat : Int) := by
  rw [IntKind.wrap_u32, BitVec.toNat_add]
  omega
theorem Xr (a b : W32) : ((a.toNat : Int) + b.toNat) % 4294967296 = ((a + b).toNat : Int) := by
  rw [BitVec.toNat_add]
  omega
theorem not_code (a : W32) : bits .xor .u32 (if IntKind.u32.signed = true then -1 else IntKind.u32.max) (a.toNat : Int) = ((~~~a).toNat : Int) := by
  have h : (if IntKind.u32.signed = true then -1 else IntKind.u32.max) = ((BitVec.allOnes 32).toNat : Int) := by decide
  rw [h, Yh]
  rw [BitVec.allOnes_xor]
theorem shaX_code (t : ShaSt) (k w : W32) : IntKind.u32.wrap (IntKind.u32.wrap (IntKind.u32.wrap (IntKind.u32.wrap ((t.h.toNat : Int) + bits .xor .u32 (bits .xor .u32 ((ror t.e 6).toNat : Int) ((ror t.e 11).toNat : Int)) ((ror t.e 25).toNat : Int)) +
    bits .xor .u32 (bits .and .u32 (t.e.toNat : Int) (t.f.toNat : Int)) (bits .and .u32 (bits .xor .u32 (if IntKind.u32.signed = true then -1 else IntKind.u32.max) (t.e.toNat : Int)) (t.g.toNat : Int))) + (k.toNat : Int)) + (w.toNat : Int)) = ((shaX t k w).toNat : Int) := by
  rw [not_code, Yh, Yh, YK, YK, Yh, Xt, Xt, Xt, Xt]
  rfl
theorem shaY_code (t : ShaSt) : IntKind.u32.wrap (bits .xor .u32 (bits .xor .u32 ((ror t.a 2).toNat : Int) ((ror t.a 13).toNat : Int)) ((ror t.a 22).toNat : Int) +
    bits .xor .u32 (bits .xor .u32 (bits .and .u32 (t.a.toNat : Int) (t.b.toNat : Int)) (bits .and .u32 (t.a.toNat : Int) (t.c.toNat : Int))) (bits .and .u32 (t.b.toNat : Int) (t.c.toNat : Int))) = ((shaY t).toNat : Int) := by
  rw [Yh, Yh, YK, YK, YK, Yh, Yh, Xt]
  rfl
theorem wl_set (l : List UInt8) (k : Nat) (hk : k < 64) (rest : List W32) (hr : rest.length = 64 - k) (x : W32) (hx : wl l (k + 1) = wl l k ++ [x]) : (wl l k ++ rest).set k x = wl l (k + 1) ++ rest.tail := by
  rw [hx]
  cases rest with
  | nil => simp at hr; omega
  | cons y r =>
    rw [List.set_append_right _ _ (by rw [YJ]; exact Nat.le_refl _), YJ, Nat.sub_self]
    simp
theorem wl_low (l : List UInt8) (k : Nat) (hk : k < 16) : wl l (k + 1) = wl l k ++ [be32 l (4 * k)] := by
  show wl l k ++ _ = _
  rw [if_pos hk]
theorem wl_high (l : List UInt8) (k : Nat) (hk : 16 ≤ k) : wl l (k + 1) = wl l k ++ [(wl l k).getD (k - 16) 0 + sig0 ((wl l k).getD (k - 15) 0) + (wl l k).getD (k - 7) 0 + sig1 ((wl l k).getD (k - 2) 0)] := by
  show wl l k ++ _ = _
  rw [if_neg (by omega)]
end Go.Proofs.Ytkncomkncfcecaa
