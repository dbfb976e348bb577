/- The document's reader: what each of its calls returns and leaves: the same as the code's. A reader on its way, and variables in blocks of their own. -/
import Derived.Test.YtkncomkncfcecaaChecked
import Derived.Test.YtkncomkncfcecaaFlashMem
import Derived.Test.YtkncomkncfcecaaShaPlain
import Derived.Test.YtkncomkncfcecaaRs
import Derived.Deep.DeepCutAuto
import Derived.Deep.QuietTactic
import Derived.BigQuiet
import Derived.Test.YtkncomkncfcecaaKnV
import Derived.Test.YtkncomkncfcecaaKnF
import Derived.Laws.CopyRow
set_option linter.unusedVariables false
set_option linter.unusedSimpArgs false
namespace Go.Proofs.Ytkncomkncfcecaa
open Go.RowKit
def RR (W : World) (B g : Nat) (l : List UInt8) (e : Int) : Prop :=
  ∃ A N c p L, W.heap[g]? = some (.cells #[.slice A N c, .int .i64 ((p : Nat) : Int), .int .i64 e] 143 (0, 0)) ∧ Bs W A N L ∧ p ≤ N ∧ N ≤ 1099511627776 ∧ N ≤ c ∧ c ≤ 9223372036854775807 ∧ l = L.drop p ∧ B ≤ g ∧ (0 < N → InQ (fun b => b < B) A)
theorem YY (w : World) (n g k : Nat) (u : Value) : w.grownBy ((w.drewN n).setCell ⟨g, k, none⟩ u) (some g) :=
  Z0 (b := w.drewN n) ⟨rfl, rfl, rfl, Nat.le_refl _, fun _ _ _ => rfl⟩ (ZJ _ _ _ _)
set_option maxRecDepth 100000 in
set_option maxHeartbeats 2000000 in
theorem refTake_any (B g : Nat) (l : List UInt8) (e : Int) (k : Nat) (w : World) (h : RR w B g l e) (hk : k ≤ 1099511627776) :
    Calls Try.prog 102 #[.pointer (some ⟨g, 0, none⟩), .int .i64 k] w fun r w' => ∃ A n c, r = .returned (.slice A n c) ∧ Bs w' A n (taken l e k).1 ∧ n ≤ c ∧ c ≤ 9223372036854775807 ∧
      RR w' B g (taken l e k).2.1 (taken l e k).2.2 ∧ w.grownBy w' (some g) := by
  obtain ⟨A, N, c, p, L, hg, hB, hp, hN, hc, hc2, hl, hBg, ha0⟩ := h
  have ha : 0 < N → Away g A := fun h => (ha0 h).away fun b hb => Nat.ne_of_lt (Nat.lt_of_lt_of_le hb hBg)
  have hL := hB.len
  have hll : l.length = N - p := by rw [hl, List.length_drop, hL]
  have c0 : w.cell? ⟨g, 0, none⟩ = some (.slice A N c) := Z4 hg rfl
  have c1 : w.cell? ⟨g, 1, none⟩ = some (.int .i64 ((p : Nat) : Int)) := Z4 hg rfl
  have c2 : w.cell? ⟨g, 2, none⟩ = some (.int .i64 e) := Z4 hg rfl
  have f1 : w.frozen? ⟨g, 1, none⟩ = false := Z6 hg
  have f2 : w.frozen? ⟨g, 2, none⟩ = false := Z6 hg
  have HG := Lib.hid hg
  have HLL := Lib.hid hll
  have HLE := Lib.hid hl
  have HL := Lib.hid hL
  clear hg hL hl
  have hp0 : (0 : Int) ≤ p := by omega
  have hp1 : (p : Int) ≤ N := by omega
  have hp2 : (p : Int) ≤ c := by omega
  have hpN : (N : Int) ≤ 1099511627776 := by omega
  have hk0 : (0 : Int) ≤ k := by omega
  have hk9 : (k : Int) ≤ 1099511627776 := by omega
  by_cases h0 : e = 0
  · subst h0
    by_cases hlt : N - p < k
    · have ht : taken l 0 k = ([], l, 8) := by unfold taken; rw [if_pos ⟨rfl, by omega⟩]
      have HT := Lib.hid ht
      have hlt' : (N : Int) - p < k := by omega
      clear ht hll
      go_enter Try.func102, Try.ntmps102
      go_wp2_with fail
      go_quiet (fail)
      go_wp2_with fail
      go_ret
      rw [HT.out]
      have h2 := ZB (i := 2) (.int .i64 8) HG.out
      exact ⟨_, _, _, rfl, Bs.nil _ _, Nat.le_refl _, by omega, ⟨A, N, c, p, L, h2, hB.grownKeep0 (YY _ _ _ _ _) ha, hp, hN, hc, hc2, HLE.out, hBg, ha0⟩, YY _ _ _ _ _⟩
    · have ht : taken l 0 k = (l.take k, l.drop k, 0) := by unfold taken; rw [if_neg (by omega), if_neg (by simp)]
      have HT := Lib.hid ht
      have hlt' : ¬ (N : Int) - p < k := by omega
      have HS : Hid ((p : Int) + k = ((p + k : Nat) : Int)) := by show (p : Int) + k = ((p + k : Nat) : Int); omega
      have HP : Hid (p + k ≤ N) := by show p + k ≤ N; omega
      clear ht hll
      go_enter Try.func102, Try.ntmps102
      go_wp2_with fail
      go_quiet (fail)
      go_upto_region 6 with fail
      rw [HS.out]
      have hs1 := HP.out
      have hs2 : ((p + k : Nat) : Int) - k = p := by omega
      have hs3 : ((p + k : Nat) : Int) ≤ N := by omega
      have hs4 : ((p + k : Nat) : Int) ≤ c := by omega
      have hs5 : (p : Int) ≤ ((p + k : Nat) : Int) := by omega
      generalize hq : p + k = q at hs1 hs2 hs3 hs4 hs5 ⊢
      have HQ := Lib.hid hq
      clear hq
      go_quiet (fail)
      go_wp2_with fail
      all_goals
        go_ret
        rw [HT.out]
        have hq : p + k = q := HQ.out
        have hq2 : q - p = k := by omega
        have hlk : (L.take q).drop p = l.take k := by rw [HLE.out, List.drop_take, hq2]
        have hld : l.drop k = L.drop q := by rw [HLE.out, List.drop_drop, hq]
        have h3 : 0 < q - p → Away g (if c = p then A else A.map (·.add p)) := fun h => (ha (by omega)).from_ c p
        first
          | (have hck : ¬ c = p := h; have h1 := hB.mid_ (j := p) (k := q) (cap := c) (by omega) hs1 hc; rw [if_neg hck, hlk] at h1; rw [if_neg hck] at h3)
          | (have h1 := hB.mid_ (j := p) (k := q) (cap := p) (by omega) hs1 (by omega); rw [if_pos rfl, hlk] at h1; rw [if_pos (by assumption)] at h3)
        exact ⟨_, _, _, rfl, h1.grownKeep0 (Z0 (YY _ _ _ _ _) (Xu _ _ _)) h3, by omega, by omega, ⟨A, N, _, q, L, ZB (i := 1) _ HG.out, hB.grownKeep0 (Z0 (YY _ _ _ _ _) (Xu _ _ _)) ha, hs1, hN, hc, hc2, hld, hBg, ha0⟩, Z0 (YY _ _ _ _ _) (Xu _ _ _)⟩
  · have ht : taken l e k = ([], l, e) := by unfold taken; rw [if_neg (by omega), if_pos h0]
    have HT := Lib.hid ht
    have he : (e == 0) = false := by rw [beq_eq_false_iff_ne]; exact h0
    have he2 : (e != 0) = true := by rw [bne_iff_ne]; exact h0
    clear ht hll
    go_enter Try.func102, Try.ntmps102
    go_wp2_with fail
    go_quiet (fail)
    go_wp2_with fail
    go_ret
    rw [HT.out]
    exact ⟨_, _, _, rfl, Bs.nil _ _, Nat.le_refl _, by omega, ⟨A, N, c, p, L, HG.out, hB, hp, hN, hc, hc2, HLE.out, hBg, ha0⟩, Xu _ _ _⟩
theorem u64_or_low (s x : Nat) (hx : x < 256) (hs : s * 256 + x < 18446744073709551616) : bits .or .u64 ((s * 256 : Nat) : Int) (x : Int) = ((x + 256 * s : Nat) : Int) := by
  have h := u64_or_join x s 8 (by omega) (by omega)
  rw [show (2 ^ 8 : Nat) = 256 from rfl] at h
  rw [show x + 256 * s = x + s * 256 by omega, ← h]
  simp only [bits, BitVec.or_comm]
set_option maxRecDepth 100000 in
set_option maxHeartbeats 1000000 in
theorem refInt_read (B g : Nat) (l : List UInt8) (e : Int) (w : World) (h : RR w B g l e) :
    Calls Try.prog 92 #[.pointer (some ⟨g, 0, none⟩)] w fun r w' => r = .returned (.int .i64 (wrap64 (leN (taken l e 8).1 : Int))) ∧
      RR w' B g (taken l e 8).2.1 (taken l e 8).2.2 ∧ w.grownBy w' (some g) := by
  have hlen := XL l e 8
  go_enter Try.func92, Try.ntmps92
  go_wp2_with (go_at_call 102; refine Calls.mono (refTake_any B g l e 8 _ h (by omega)) ?_; rintro r w1 ⟨A, n, c, rfl, hB, hn, hc, hcr, hgr⟩)
  generalize ht0 : (taken l e 8).1 = t at hB hlen
  have HT0 := Lib.hid ht0
  clear ht0
  have hl := hB.len
  have HL := Lib.hid hl
  clear hl
  go_loop [3, 5] (fun u i => ∃ (j : Nat) (s : Nat), j ≤ n ∧ i = .int .i64 ((j : Int) - 1) ∧ u = .int .u64 s ∧ Hid (s = leN (t.drop j))) (fun _ i => (intOf i + 1).toNat)
  case atStart => exact ⟨n, 0, Nat.le_refl _, rfl, rfl, by show 0 = leN (t.drop n); rw [List.drop_of_length_le (by rw [HL.out]; exact Nat.le_refl _)]; rfl⟩
  case round =>
    obtain ⟨j, s, hj, rfl, rfl, hs⟩ := hrel
    have hn8 : n ≤ 8 := by rw [← HL.out]; omega
    by_cases h0 : j = 0
    · subst h0
      go_wp2_with fail
      go_ret
      refine ⟨?_, hcr, hgr⟩
      rw [HT0.out, hs.out, List.drop_zero]
      rfl
    · obtain ⟨k, rfl⟩ : ∃ k, j = k + 1 := ⟨j - 1, by omega⟩
      have hk : k < n := by omega
      have e1 : ((k + 1 : Nat) : Int) - 1 = (k : Int) := by omega
      rw [e1]
      clear e1
      obtain ⟨b, o, x, rfl, hcell, _, hx⟩ := hB.next hk
      have hkn : (k : Int) < n := by omega
      have hk0 : (0 : Int) ≤ k := by omega
      have hxl := ZS x
      have hd : leN (t.drop k) = x.toNat + 256 * s := by
        obtain ⟨hlt, hxe⟩ := List.getElem?_eq_some_iff.1 hx.out
        rw [List.drop_eq_getElem_cons hlt, hxe, hs.out]
        rfl
      have hs1 : s < 256 ^ (t.drop (k + 1)).length := by rw [hs.out]; exact leN_lt _
      have hs2 : s < 72057594037927936 := by
        have h1 : (t.drop (k + 1)).length ≤ 7 := by rw [List.length_drop, HL.out]; omega
        have h2 : 256 ^ (t.drop (k + 1)).length ≤ 256 ^ 7 := Nat.pow_le_pow_right (by omega) h1
        have h3 : 256 ^ 7 = 72057594037927936 := by decide
        omega
      have ho := u64_or_low s x.toNat hxl (by omega)
      have HD := Lib.hid hd
      have HO := Lib.hid ho
      clear hd ho hs1
      go_wp2_with fail
      refine ⟨⟨k, x.toNat + 256 * s, by omega, rfl, ?_, HD.out.symm⟩, by simp [intOf]⟩
      rw [show (s : Int) * 256 = ((s * 256 : Nat) : Int) by omega, HO.out]
theorem RR.below {W W' : World} {B g : Nat} {l : List UInt8} {e : Int} (h : RR W B g l e) (hb : Below W.heap.size W W') : RR W' B g l e := by
  obtain ⟨A, N, c, p, L, hg, hB, hp, hN, hc, hc2, hl, hBg, ha0⟩ := h
  have ha : 0 < N → Away g A := fun h => (ha0 h).away fun b hb => Nat.ne_of_lt (Nat.lt_of_lt_of_le hb hBg)
  exact ⟨A, N, c, p, L, by rw [hb.block g (Array.getElem?_eq_some_iff.1 hg).1]; exact hg, hB.below hb, hp, hN, hc, hc2, hl, hBg, ha0⟩
set_option maxRecDepth 100000 in
set_option maxHeartbeats 1000000 in
theorem refByte_read (B g : Nat) (l : List UInt8) (e : Int) (w : World) (h : RR w B g l e) :
    Calls Try.prog 93 #[.pointer (some ⟨g, 0, none⟩)] w fun r w' => r = .returned (.int .i64 (leN (taken l e 1).1 : Int)) ∧
      RR w' B g (taken l e 1).2.1 (taken l e 1).2.2 ∧ w.grownBy w' (some g) := by
  have hlen := XL l e 1
  go_enter Try.func93, Try.ntmps93
  go_upto_region 2 with (go_at_call 102; refine Calls.mono (refTake_any B g l e 1 _ h (by omega)) ?_; rintro r w1 ⟨A, n, c, rfl, hB, hn, hc, hcr, hgr⟩)
  generalize ht0 : (taken l e 1).1 = t at hB hlen
  have HT0 := Lib.hid ht0
  clear ht0
  have hl := hB.len
  by_cases h0 : n = 0
  · subst h0
    have ht : t = [] := List.length_eq_zero_iff.1 hl
    clear hl
    subst ht
    go_wp2_with fail
    go_ret
    rw [HT0.out]
    exact ⟨rfl, hcr, hgr⟩
  · obtain rfl : n = 1 := by omega
    obtain ⟨x, rfl⟩ : ∃ x, t = [x] := List.length_eq_one_iff.1 hl
    clear hl hlen
    obtain ⟨b, o, rfl⟩ := hB.some_ (by omega)
    have c0 : w1.cell? ⟨b, o, none⟩ = some (.int .u8 (x.toNat : Int)) := hB.cellAt (k := 0) (by simp)
    have hxl := ZS x
    go_wp2_with fail
    go_ret
    rw [HT0.out, leN_one]
    exact ⟨rfl, hcr, hgr⟩
set_option maxRecDepth 100000 in
theorem refEnd_read (B g : Nat) (l : List UInt8) (e : Int) (w : World) (h : RR w B g l e) :
    Calls Try.prog 94 #[.pointer (some ⟨g, 0, none⟩)] w fun r w' => r = .returned (.int .i64 (ended l e)) ∧ Below w.heap.size w w' := by
  obtain ⟨A, N, c, p, L, hg, hB, hp, hN, hc, hc2, hl, hBg, ha0⟩ := h
  have ha : 0 < N → Away g A := fun h => (ha0 h).away fun b hb => Nat.ne_of_lt (Nat.lt_of_lt_of_le hb hBg)
  have hL := hB.len
  have hll : l.length = N - p := by rw [hl, List.length_drop, hL]
  have c0 : w.cell? ⟨g, 0, none⟩ = some (.slice A N c) := Z4 hg rfl
  have c1 : w.cell? ⟨g, 1, none⟩ = some (.int .i64 ((p : Nat) : Int)) := Z4 hg rfl
  have c2 : w.cell? ⟨g, 2, none⟩ = some (.int .i64 e) := Z4 hg rfl
  clear hg hl hL
  have hend : ended l e = if e = 0 ∧ p < N then 9 else e := by
    unfold ended
    rw [hll]
    congr 1
    simp only [eq_iff_iff]
    exact and_congr_right fun _ => by omega
  rw [hend]
  clear hend hll
  by_cases h0 : e = 0
  · subst h0
    by_cases hlt : p < N
    · rw [if_pos ⟨rfl, hlt⟩]
      have hlt' : (p : Int) < N := by omega
      go_enter Try.func94, Try.ntmps94
      go_wp2_with fail
      go_quiet (fail)
      go_wp2_with fail
      go_ret
      exact ⟨rfl, Yb (Below.refl _ _) _⟩
    · rw [if_neg (by omega)]
      have hlt' : ¬ (p : Int) < N := by omega
      go_enter Try.func94, Try.ntmps94
      go_wp2_with fail
      go_quiet (fail)
      go_wp2_with fail
      go_ret
      exact ⟨rfl, Yb (Below.refl _ _) _⟩
  · rw [if_neg (by omega)]
    have he : (e == 0) = false := by rw [beq_eq_false_iff_ne]; exact h0
    go_enter Try.func94, Try.ntmps94
    go_wp2_with fail
    go_quiet (fail)
    go_wp2_with fail
    go_ret
    exact ⟨rfl, Yb (Below.refl _ _) _⟩
theorem refNew_read (B : Nat) (A : Option Addr) (n c : Nat) (l : List UInt8) (w : World) (hA : Bs w A n l) (hn : n ≤ 1099511627776) (hc : n ≤ c) (hc2 : c ≤ 9223372036854775807) (hBw : B ≤ w.heap.size) (hlt : 0 < n → InQ (fun b => b < B) A) :
    Calls Try.prog 91 #[.slice A n c] w fun r w' => ∃ g, r = .returned (.pointer (some ⟨g, 0, none⟩)) ∧ g = w.heap.size ∧ g < w'.heap.size ∧ RR w' B g l 0 ∧ Below w.heap.size w w' := by
  go_enter Try.func91, Try.ntmps91
  go_wp2_with fail
  go_ret
  refine ⟨_, rfl, rfl, by simp, ⟨A, n, c, 0, l, WJ _ _ rfl, hA.alloc _, by omega, hn, hc, hc2, by simp, hBw, hlt⟩, (Below.refl _ _).alloc (Nat.le_refl _) _⟩
theorem RR.other {B : Nat} {W W' : World} {g g2 : Nat} {l : List UInt8} {e : Int} (h : RR W B g l e) (hg2 : W.grownBy W' (some g2)) (hne : g ≠ g2) (hB2 : B ≤ g2) : RR W' B g l e := by
  obtain ⟨A, N, c, p, L, hg, hB, hp, hN, hc, hc2, hl, hBg, ha0⟩ := h
  refine ⟨A, N, c, p, L, ?_, hB.grownKeep0 hg2 (fun h => (ha0 h).away fun b hb => Nat.ne_of_lt (Nat.lt_of_lt_of_le hb hB2)), hp, hN, hc, hc2, hl, hBg, ha0⟩
  rw [hg2.block g (Array.getElem?_eq_some_iff.1 hg).1 (fun h => hne (by injection h))]
  exact hg
end Go.Proofs.Ytkncomkncfcecaa
set_option linter.unusedVariables false
set_option linter.unusedSimpArgs false
namespace Go.Proofs.Ytkncomkncfcecaa
open Go.RowKit
theorem LayV.grown {w w' : World} {B g : Nat} (hg : w.grownBy w' (some g)) : ∀ {V : Vars}, LayV w B V → (∀ p ∈ V, p.1 ≠ g) → LayV w' B V
  | [], _, _ => trivial
  | (b, cs, t) :: V, h, hne => ⟨h.1, by
      have hb : b ≠ g := hne (b, cs, t) (by simp)
      rw [hg.block b (Array.getElem?_eq_some_iff.1 h.2.1).1 (fun e => hb (by injection e))]; exact h.2.1, h.2.2.1, LayV.grown hg h.2.2.2 fun p hp => hne p (by simp [hp])⟩
def RSt : Bool → World → Nat → List UInt8 → Int → Prop
  | true, W, g, l, e => CRP (fun b => b < g) W g l e
  | false, W, g, l, e => RR W g g l e
theorem RSt.below {k : Bool} {W W' : World} {g : Nat} {l : List UInt8} {e : Int} (h : RSt k W g l e) (hb : Below W.heap.size W W') : RSt k W' g l e := by
  cases k
  · exact RR.below h hb
  · exact CRP.below h hb
theorem RSt.other {k : Bool} {W W' : World} {g g2 : Nat} {l : List UInt8} {e : Int} (h : RSt k W g l e) (hg : W.grownBy W' (some g2)) (hlt : g < g2) : RSt k W' g l e := by
  cases k
  · exact RR.other h hg (by omega) (Nat.le_of_lt hlt)
  · exact CRP.other h hg (by omega) (fun b hb => by omega)
theorem RSt.lt {k : Bool} {W : World} {g : Nat} {l : List UInt8} {e : Int} (h : RSt k W g l e) : g < W.heap.size := by
  cases k
  · obtain ⟨A, N, c, p, L, hg, _⟩ := h
    exact (Array.getElem?_eq_some_iff.1 hg).1
  · obtain ⟨A, n, c, hg, _⟩ := h
    exact (Array.getElem?_eq_some_iff.1 hg).1
structure Rd (k : Bool) (w0 W : World) (V : Vars) (g : Nat) (l : List UInt8) (e : Int) : Prop where
  grown : w0.grownBy W (some g)
  vars : LayV W w0.heap.size V
  rd : RSt k W g l e
  apart : ∀ p ∈ V, p.1 ≠ g
section
variable {k : Bool} {w0 W W' : World} {V : Vars} {g : Nat} {l l' : List UInt8} {e e' : Int}
theorem grown_row (W : World) (b : Nat) (cs : Array Value) : W.grownBy (W.setRow b cs) (some b) :=
  ⟨rfl, rfl, rfl, by simp [World.setRow], fun i _ hne => by rw [setRow_other _ _ _ _ (fun h => hne (by rw [h]))]⟩
theorem Rd.start (h : RSt k W g l e) : Rd k W W [] g l e := ⟨ZG _ _, trivial, h, fun p hp => by cases hp⟩
theorem Rd.of_lay (hL : Lay w0 W V) (h : RSt k W g l e) (ha : ∀ p ∈ V, p.1 ≠ g) : Rd k w0 W V g l e := ⟨⟨hL.below.os, hL.below.tape, hL.below.output, hL.below.size, fun i hi _ => hL.below.block i hi⟩, hL.vars, h, ha⟩
theorem Rd.lay (h : Rd k w0 W V g l e) (hB : w0.heap.size ≤ g) : Lay w0 W V := ⟨⟨h.grown.os, h.grown.tape, h.grown.output, h.grown.size, fun i hi => h.grown.block i hi (fun hh => by injection hh with hh; omega)⟩, h.vars⟩
theorem Rd.step (h : Rd k w0 W V g l e) (hg : W.grownBy W' (some g)) (hr : RSt k W' g l' e') : Rd k w0 W' V g l' e' := ⟨Z0 h.grown hg, h.vars.grown hg h.apart, hr, h.apart⟩
theorem Rd.next (h : Rd k w0 W V g l e) (hb : Below W.heap.size W W') : Rd k w0 W' V g l e := h.step (Z8 hb _) (h.rd.below hb)
theorem Rd.drew (h : Rd k w0 W V g l e) : Rd k w0 W.drew V g l e := h.next (Below.refl _ _).drew
theorem Rd.alloc (h : Rd k w0 W V g l e) (cs : Array Value) (t : TypeId) : Rd k w0 (W.alloc (.cells cs t)) ((W.heap.size, cs, t) :: V) g l e := by
  have hb : Below W.heap.size W (W.alloc (.cells cs t)) := (Below.refl _ _).alloc (Nat.le_refl _) _
  have hn := h.next hb
  refine ⟨hn.grown, ⟨h.grown.size, heap_alloc_new _ _, h.vars.lt, hn.vars⟩, hn.rd, fun p hp => ?_⟩
  rcases List.mem_cons.1 hp with rfl | hp
  · exact Nat.ne_of_gt h.rd.lt
  · exact h.apart p hp
theorem Rd.at_ (h : Rd k w0 W V g l e) (i : Nat) {b : Nat} {cs : Array Value} {t : TypeId} (hi : V[i]? = some (b, cs, t)) : W.heap[b]? = some (.cells cs t (0, 0)) := (h.vars.get i hi).2
theorem Rd.get (h : Rd k w0 W V g l e) (i : Nat) {b : Nat} {cs : List Value} {t : TypeId} (hi : V[i]? = some (b, cs.toArray, t)) {j : Nat} {u : Value} (hu : cs[j]? = some u) : W.cell? ⟨b, j, none⟩ = some u := Z4 (h.at_ i hi) (by rw [List.getElem?_toArray]; exact hu)
theorem Rd.free (h : Rd k w0 W V g l e) (i : Nat) {b : Nat} {cs : Array Value} {t : TypeId} (hi : V[i]? = some (b, cs, t)) (j : Nat) : W.frozen? ⟨b, j, none⟩ = false := Z6 (h.at_ i hi)
theorem Rd.row (h : Rd k w0 W V g l e) (i : Nat) {b : Nat} {cs : Array Value} {t : TypeId} (hi : V[i]? = some (b, cs, t)) (hgt : g < b) (cs' : Array Value) : Rd k w0 (W.setRow b cs') (V.set i (b, cs', t)) g l e := by
  have hge := (h.vars.get i hi).1
  have hg2 := grown_row W b cs'
  refine ⟨⟨h.grown.os, h.grown.tape, h.grown.output, Nat.le_trans h.grown.size hg2.size, fun j hj hne => ?_⟩, h.vars.put i hi (ZQ (h.at_ i hi)) (fun k x hk hx => by rw [setRow_other _ _ _ _ hk]; exact hx), h.rd.other hg2 hgt, fun p hp => ?_⟩
  · rw [setRow_other _ _ _ _ (by omega)]; exact h.grown.block j hj hne
  · rcases List.mem_or_eq_of_mem_set hp with hp | rfl
    · exact h.apart p hp
    · exact Nat.ne_of_gt hgt
theorem Rd.cell (h : Rd k w0 W V g l e) (i : Nat) {b : Nat} {cs : List Value} {t : TypeId} (hi : V[i]? = some (b, cs.toArray, t)) (hgt : g < b) (j : Nat) (u : Value) : Rd k w0 (W.setCell ⟨b, j, none⟩ u) (V.set i (b, (cs.set j u).toArray, t)) g l e := by
  have := h.row i hi hgt (cs.set j u).toArray
  rw [setCell_eq_setRow W b j _ t (0, 0) u (h.at_ i hi), List.setIfInBounds_toArray]
  exact this
end
section
variable {P : Program} {Q : Exit → Act → World → Prop} {N : Nat} {L : Slots} {k : Bool} {w0 w : World} {V : Vars} {g : Nat} {l : List UInt8} {er : Int} {ops : Array Oper} {rest : List Oper} {o o' : Oper}
theorem kl_varR {d y : Nat} {t : TypeId} {z cells : Array Value} (hR : Rd k w0 w V g l er) (hz : (P.info? t).bind (·.zero) = some (.agg z)) (hi : (P.info? t).map (·.size) = some cells.size) (hs : z.size = cells.size) (hwv : cells.all (·.oneCell') = true)
    (hd : o.dst = some d) (hg : o.guard = none) (ho : o.op = .alloc t) (hd' : o'.dst = none) (hg' : o'.guard = none) (ho' : o'.op = .store t (.tmp d) (.tmp y)) (hy : lk L y = some (.agg cells)) (hne : (d == y) = false) (hn : Nat.blt d N = true)
    (h : ∀ b w', g < b → Below w.heap.size w w' → Rd k w0 w' ((b, cells, t) :: V) g l er → KL P ops Q rest N ((d, .pointer (some ⟨b, 0, none⟩)) :: L) w') : KL P ops Q (o :: o' :: rest) N L w :=
  kl_var_row hz hi hs hwv hd hg ho hd' hg' ho' hy hne hn (h _ _ hR.rd.lt ((Below.refl _ _).alloc (Nat.le_refl _) _) (hR.alloc _ _))
end
/-! ### what the readers' functions do -/
section
variable {w0 W : World} {V : Vars} {g : Nat} {l : List UInt8} {e : Int}
theorem hlt (g : Nat) : ∀ b, (fun b => b < g) b → b ≠ g := fun _ h => Nat.ne_of_lt h
theorem rdInt (h : Rd true w0 W V g l e) : Calls Try.prog 76 #[.pointer (some ⟨g, 0, none⟩)] W fun r W' => r = .returned (.int .i64 (tkN (taken l e 8))) ∧ Rd true w0 W' V g (taken l e 8).2.1 (taken l e 8).2.2 :=
  Calls.mono (readInt_Q _ g (hlt g) l e W h.rd) fun _ _ ⟨h1, h2, h3⟩ => ⟨h1, h.step h3 h2⟩
theorem rdByte (h : Rd true w0 W V g l e) : Calls Try.prog 77 #[.pointer (some ⟨g, 0, none⟩)] W fun r W' => r = .returned (.int .i64 (((taken l e 1).1.headD 0).toNat : Int)) ∧ Rd true w0 W' V g (taken l e 1).2.1 (taken l e 1).2.2 :=
  Calls.mono (readByte_Q _ g (hlt g) l e W h.rd) fun _ _ ⟨h1, h2, h3⟩ => ⟨by rw [h1, leN_head _ (XL l e 1)], h.step h3 h2⟩
theorem rdEnd (h : Rd true w0 W V g l e) : Calls Try.prog 78 #[.pointer (some ⟨g, 0, none⟩)] W fun r W' => r = .returned (.int .i64 (ended l e)) ∧ Rd true w0 W' V g l e ∧ Below W.heap.size W W' :=
  Calls.mono (end_Q _ g (hlt g) l e W h.rd) fun _ _ ⟨h1, h2⟩ => ⟨h1, by subst h2; exact ⟨h, Below.refl _ _⟩⟩
theorem rdNew (A : Option Addr) (n c : Nat) (l : List UInt8) (hL : Lay w0 W V) (hA : Bs W A n l) (hn : n ≤ 140737488355328) :
    Calls Try.prog 75 #[.slice A n c] W fun r W' => ∃ g, r = .returned (.pointer (some ⟨g, 0, none⟩)) ∧ W.heap.size ≤ g ∧ Rd true w0 W' V g l 0 :=
  Calls.mono (new_Q A n c l W hA hn) fun _ _ ⟨g, h1, h2, h3, h4, h5⟩ => ⟨g, h1, h2, Rd.of_lay (hL.next h5) h4 fun p hp => by have := hL.vars.lt p hp; omega⟩
theorem rrInt (h : Rd false w0 W V g l e) : Calls Try.prog 92 #[.pointer (some ⟨g, 0, none⟩)] W fun r W' => r = .returned (.int .i64 (tkN (taken l e 8))) ∧ Rd false w0 W' V g (taken l e 8).2.1 (taken l e 8).2.2 :=
  Calls.mono (refInt_read g g l e W h.rd) fun _ _ ⟨h1, h2, h3⟩ => ⟨h1, h.step h3 h2⟩
theorem rrByte (h : Rd false w0 W V g l e) : Calls Try.prog 93 #[.pointer (some ⟨g, 0, none⟩)] W fun r W' => r = .returned (.int .i64 (((taken l e 1).1.headD 0).toNat : Int)) ∧ Rd false w0 W' V g (taken l e 1).2.1 (taken l e 1).2.2 :=
  Calls.mono (refByte_read g g l e W h.rd) fun _ _ ⟨h1, h2, h3⟩ => ⟨by rw [h1, leN_head _ (XL l e 1)], h.step h3 h2⟩
theorem rrEnd (h : Rd false w0 W V g l e) : Calls Try.prog 94 #[.pointer (some ⟨g, 0, none⟩)] W fun r W' => r = .returned (.int .i64 (ended l e)) ∧ Rd false w0 W' V g l e ∧ Below W.heap.size W W' :=
  Calls.mono (refEnd_read g g l e W h.rd) fun _ _ ⟨h1, h2⟩ => ⟨h1, h.next h2, h2⟩
theorem rrNew (A : Option Addr) (n c : Nat) (l : List UInt8) (hL : Lay w0 W V) (hA : Bs W A n l) (hn : n ≤ 1099511627776) (hc : n ≤ c) (hc2 : c ≤ 9223372036854775807) :
    Calls Try.prog 91 #[.slice A n c] W fun r W' => ∃ g, r = .returned (.pointer (some ⟨g, 0, none⟩)) ∧ W.heap.size ≤ g ∧ Rd false w0 W' V g l 0 :=
  Calls.mono (refNew_read W.heap.size A n c l W hA hn hc hc2 (Nat.le_refl _) hA.inQ) fun _ _ ⟨g, h1, h2, h3, h4, h5⟩ => ⟨g, h1, by omega, Rd.of_lay (hL.next h5) (by
      obtain ⟨A, N, c, p, L, q1, q2, q3, q4, q5, q6, q7, q8, q9⟩ := h4
      exact ⟨A, N, c, p, L, q1, q2, q3, q4, q5, q6, q7, Nat.le_refl _, fun hN a ha => Nat.lt_of_lt_of_le (q9 hN a ha) q8⟩) fun p hp => by have := hL.vars.lt p hp; omega⟩
end
end Go.Proofs.Ytkncomkncfcecaa
