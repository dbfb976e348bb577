/- The document's reader: what each of its calls returns and leaves: the same as the code's. -/
import Derived.Test.YtcpifcdndhhmgaaChecked
import Derived.Test.YtcpifcdndhhmgaaConcat
import Derived.Test.YtcpifcdndhhmgaaReader
import Derived.Test.YtcpifcdndhhmgaaRegionL
import Derived.Deep.DeepCutAuto
import Derived.Deep.QuietTactic
import Derived.BigQuiet
set_option linter.unusedVariables false
set_option linter.unusedSimpArgs false
namespace Go.Proofs.Ytcpifcdndhhmgaa
open Go.RowKit

/-- the document's reader at block g: the bytes that are left, the first error -/
def RR (W : World) (B g : Nat) (l : List UInt8) (e : Int) : Prop :=
  ∃ A N c p L, W.heap[g]? = some (.cells #[.slice A N c, .int .i64 ((p : Nat) : Int), .int .i64 e] 145 (0, 0)) ∧ Bs W A N L ∧ p ≤ N ∧ N ≤ 1099511627776 ∧ N ≤ c ∧ c ≤ 9223372036854775807 ∧ l = L.drop p ∧ B ≤ g ∧ (0 < N → InQ (fun b => b < B) A)

theorem grown_drew_set (w : World) (n g k : Nat) (u : Value) : w.grownBy ((w.drewN n).setCell ⟨g, k, none⟩ u) (some g) :=
  grown_trans (b := w.drewN n) ⟨rfl, rfl, rfl, Nat.le_refl _, fun _ _ _ => rfl⟩ (grown_set _ _ _ _)
set_option maxRecDepth 100000 in
set_option maxHeartbeats 2000000 in
theorem refTake_any (B g : Nat) (l : List UInt8) (e : Int) (k : Nat) (w : World) (h : RR w B g l e) (hk : k ≤ 1099511627776) :
    Calls Try.prog 109 #[.pointer (some ⟨g, 0, none⟩), .int .i64 k] w fun r w' => ∃ A n c, r = .returned (.slice A n c) ∧ Bs w' A n (taken l e k).1 ∧ n ≤ c ∧ c ≤ 9223372036854775807 ∧
      RR w' B g (taken l e k).2.1 (taken l e k).2.2 ∧ w.grownBy w' (some g) := by
  obtain ⟨A, N, c, p, L, hg, hB, hp, hN, hc, hc2, hl, hBg, ha0⟩ := h
  have ha : 0 < N → Away g A := fun h => (ha0 h).away fun b hb => Nat.ne_of_lt (Nat.lt_of_lt_of_le hb hBg)
  have hL := hB.len
  have hll : l.length = N - p := by rw [hl, List.length_drop, hL]
  have c0 : w.cell? ⟨g, 0, none⟩ = some (.slice A N c) := cell_of_block hg rfl
  have c1 : w.cell? ⟨g, 1, none⟩ = some (.int .i64 ((p : Nat) : Int)) := cell_of_block hg rfl
  have c2 : w.cell? ⟨g, 2, none⟩ = some (.int .i64 e) := cell_of_block hg rfl
  have f1 : w.frozen? ⟨g, 1, none⟩ = false := free_of_block hg
  have f2 : w.frozen? ⟨g, 2, none⟩ = false := free_of_block hg
  have HG := Lib.hid hg
  have HLL := Lib.hid hll
  have HLE := Lib.hid hl
  have HL := Lib.hid hL
  clear hg hL hl
  have hp0 : (0 : Int) ≤ p := by omega
  have hp1 : (p : Int) ≤ N := by omega
  have hp2 : (p : Int) ≤ c := by omega
  have hpN : (N : Int) ≤ 1099511627776 := by omega
  have hk0 : (0 : Int) ≤ k := by omega
  have hk9 : (k : Int) ≤ 1099511627776 := by omega
  by_cases h0 : e = 0
  · subst h0
    by_cases hlt : N - p < k
    · have ht : taken l 0 k = ([], l, 8) := by unfold taken; rw [if_pos ⟨rfl, by omega⟩]
      have HT := Lib.hid ht
      have hlt' : (N : Int) - p < k := by omega
      clear ht hll
      go_enter Try.func109, Try.ntmps109
      go_wp2_with fail
      go_quiet (fail)
      go_wp2_with fail
      go_ret
      rw [HT.out]
      have h2 := block_setCell (i := 2) (.int .i64 8) HG.out
      exact ⟨_, _, _, rfl, Bs.nil _ _, Nat.le_refl _, by omega, ⟨A, N, c, p, L, h2, hB.grownKeep0 (grown_drew_set _ _ _ _ _) ha, hp, hN, hc, hc2, HLE.out, hBg, ha0⟩, grown_drew_set _ _ _ _ _⟩
    · have ht : taken l 0 k = (l.take k, l.drop k, 0) := by unfold taken; rw [if_neg (by omega), if_neg (by simp)]
      have HT := Lib.hid ht
      have hlt' : ¬ (N : Int) - p < k := by omega
      have HS : Hid ((p : Int) + k = ((p + k : Nat) : Int)) := by show (p : Int) + k = ((p + k : Nat) : Int); omega
      have HP : Hid (p + k ≤ N) := by show p + k ≤ N; omega
      clear ht hll
      go_enter Try.func109, Try.ntmps109
      go_wp2_with fail
      go_quiet (fail)
      go_upto_region 6 with fail
      rw [HS.out]
      have hs1 := HP.out
      have hs2 : ((p + k : Nat) : Int) - k = p := by omega
      have hs3 : ((p + k : Nat) : Int) ≤ N := by omega
      have hs4 : ((p + k : Nat) : Int) ≤ c := by omega
      have hs5 : (p : Int) ≤ ((p + k : Nat) : Int) := by omega
      generalize hq : p + k = q at hs1 hs2 hs3 hs4 hs5 ⊢
      have HQ := Lib.hid hq
      clear hq
      go_quiet (fail)
      go_wp2_with fail
      all_goals
        go_ret
        rw [HT.out]
        have hq : p + k = q := HQ.out
        have hq2 : q - p = k := by omega
        have hlk : (L.take q).drop p = l.take k := by rw [HLE.out, List.drop_take, hq2]
        have hld : l.drop k = L.drop q := by rw [HLE.out, List.drop_drop, hq]
        have h3 : 0 < q - p → Away g (if c = p then A else A.map (·.add p)) := fun h => (ha (by omega)).from_ c p
        first
          | (have hck : ¬ c = p := h; have h1 := hB.mid_ (j := p) (k := q) (cap := c) (by omega) hs1 hc; rw [if_neg hck, hlk] at h1; rw [if_neg hck] at h3)
          | (have h1 := hB.mid_ (j := p) (k := q) (cap := p) (by omega) hs1 (by omega); rw [if_pos rfl, hlk] at h1; rw [if_pos (by assumption)] at h3)
        exact ⟨_, _, _, rfl, h1.grownKeep0 (grown_trans (grown_drew_set _ _ _ _ _) (grown_drew _ _ _)) h3, by omega, by omega, ⟨A, N, _, q, L, block_setCell (i := 1) _ HG.out, hB.grownKeep0 (grown_trans (grown_drew_set _ _ _ _ _) (grown_drew _ _ _)) ha, hs1, hN, hc, hc2, hld, hBg, ha0⟩, grown_trans (grown_drew_set _ _ _ _ _) (grown_drew _ _ _)⟩
  · have ht : taken l e k = ([], l, e) := by unfold taken; rw [if_neg (by omega), if_pos h0]
    have HT := Lib.hid ht
    have he : (e == 0) = false := by rw [beq_eq_false_iff_ne]; exact h0
    have he2 : (e != 0) = true := by rw [bne_iff_ne]; exact h0
    clear ht hll
    go_enter Try.func109, Try.ntmps109
    go_wp2_with fail
    go_quiet (fail)
    go_wp2_with fail
    go_ret
    rw [HT.out]
    exact ⟨_, _, _, rfl, Bs.nil _ _, Nat.le_refl _, by omega, ⟨A, N, c, p, L, HG.out, hB, hp, hN, hc, hc2, HLE.out, hBg, ha0⟩, grown_drew _ _ _⟩

/-- a number of bytes, the highest first, on top of what stands -/
theorem u64_or_low (s x : Nat) (hx : x < 256) (hs : s * 256 + x < 18446744073709551616) : bits .or .u64 ((s * 256 : Nat) : Int) (x : Int) = ((x + 256 * s : Nat) : Int) := by
  have h := u64_or_join x s 8 (by omega) (by omega)
  rw [show (2 ^ 8 : Nat) = 256 from rfl] at h
  rw [show x + 256 * s = x + s * 256 by omega, ← h]
  simp only [bits, BitVec.or_comm]

set_option maxRecDepth 100000 in
set_option maxHeartbeats 1000000 in
theorem refInt_read (B g : Nat) (l : List UInt8) (e : Int) (w : World) (h : RR w B g l e) :
    Calls Try.prog 97 #[.pointer (some ⟨g, 0, none⟩)] w fun r w' => r = .returned (.int .i64 (wrap64 (leN (taken l e 8).1 : Int))) ∧
      RR w' B g (taken l e 8).2.1 (taken l e 8).2.2 ∧ w.grownBy w' (some g) := by
  have hlen := taken_len l e 8
  go_enter Try.func97, Try.ntmps97
  go_wp2_with (go_at_call 109; refine Calls.mono (refTake_any B g l e 8 _ h (by omega)) ?_; rintro r w1 ⟨A, n, c, rfl, hB, hn, hc, hcr, hgr⟩)
  generalize ht0 : (taken l e 8).1 = t at hB hlen
  have HT0 := Lib.hid ht0
  clear ht0
  have hl := hB.len
  have HL := Lib.hid hl
  clear hl
  go_loop [3, 5] (fun u i => ∃ (j : Nat) (s : Nat), j ≤ n ∧ i = .int .i64 ((j : Int) - 1) ∧ u = .int .u64 s ∧ Hid (s = leN (t.drop j))) (fun _ i => (intOf i + 1).toNat)
  case atStart => exact ⟨n, 0, Nat.le_refl _, rfl, rfl, by show 0 = leN (t.drop n); rw [List.drop_of_length_le (by rw [HL.out]; exact Nat.le_refl _)]; rfl⟩
  case round =>
    obtain ⟨j, s, hj, rfl, rfl, hs⟩ := hrel
    have hn8 : n ≤ 8 := by rw [← HL.out]; omega
    by_cases h0 : j = 0
    · subst h0
      go_wp2_with fail
      go_ret
      refine ⟨?_, hcr, hgr⟩
      rw [HT0.out, hs.out, List.drop_zero]
      rfl
    · obtain ⟨k, rfl⟩ : ∃ k, j = k + 1 := ⟨j - 1, by omega⟩
      have hk : k < n := by omega
      have e1 : ((k + 1 : Nat) : Int) - 1 = (k : Int) := by omega
      rw [e1]
      clear e1
      obtain ⟨b, o, x, rfl, hcell, _, hx⟩ := hB.next hk
      have hkn : (k : Int) < n := by omega
      have hk0 : (0 : Int) ≤ k := by omega
      have hxl := byte_lt x
      have hd : leN (t.drop k) = x.toNat + 256 * s := by
        obtain ⟨hlt, hxe⟩ := List.getElem?_eq_some_iff.1 hx.out
        rw [List.drop_eq_getElem_cons hlt, hxe, hs.out]
        rfl
      have hs1 : s < 256 ^ (t.drop (k + 1)).length := by rw [hs.out]; exact leN_lt _
      have hs2 : s < 72057594037927936 := by
        have h1 : (t.drop (k + 1)).length ≤ 7 := by rw [List.length_drop, HL.out]; omega
        have h2 : 256 ^ (t.drop (k + 1)).length ≤ 256 ^ 7 := Nat.pow_le_pow_right (by omega) h1
        have h3 : 256 ^ 7 = 72057594037927936 := by decide
        omega
      have ho := u64_or_low s x.toNat hxl (by omega)
      have HD := Lib.hid hd
      have HO := Lib.hid ho
      clear hd ho hs1
      go_wp2_with fail
      refine ⟨⟨k, x.toNat + 256 * s, by omega, rfl, ?_, HD.out.symm⟩, by simp [intOf]⟩
      rw [show (s : Int) * 256 = ((s * 256 : Nat) : Int) by omega, HO.out]

theorem RR.below {W W' : World} {B g : Nat} {l : List UInt8} {e : Int} (h : RR W B g l e) (hb : Below W.heap.size W W') : RR W' B g l e := by
  obtain ⟨A, N, c, p, L, hg, hB, hp, hN, hc, hc2, hl, hBg, ha0⟩ := h
  have ha : 0 < N → Away g A := fun h => (ha0 h).away fun b hb => Nat.ne_of_lt (Nat.lt_of_lt_of_le hb hBg)
  exact ⟨A, N, c, p, L, by rw [hb.block g (Array.getElem?_eq_some_iff.1 hg).1]; exact hg, hB.below hb, hp, hN, hc, hc2, hl, hBg, ha0⟩
set_option maxRecDepth 100000 in
set_option maxHeartbeats 1000000 in
theorem refByte_read (B g : Nat) (l : List UInt8) (e : Int) (w : World) (h : RR w B g l e) :
    Calls Try.prog 98 #[.pointer (some ⟨g, 0, none⟩)] w fun r w' => r = .returned (.int .i64 (leN (taken l e 1).1 : Int)) ∧
      RR w' B g (taken l e 1).2.1 (taken l e 1).2.2 ∧ w.grownBy w' (some g) := by
  have hlen := taken_len l e 1
  go_enter Try.func98, Try.ntmps98
  go_upto_region 2 with (go_at_call 109; refine Calls.mono (refTake_any B g l e 1 _ h (by omega)) ?_; rintro r w1 ⟨A, n, c, rfl, hB, hn, hc, hcr, hgr⟩)
  generalize ht0 : (taken l e 1).1 = t at hB hlen
  have HT0 := Lib.hid ht0
  clear ht0
  have hl := hB.len
  by_cases h0 : n = 0
  · subst h0
    have ht : t = [] := List.length_eq_zero_iff.1 hl
    clear hl
    subst ht
    go_wp2_with fail
    go_ret
    rw [HT0.out]
    exact ⟨rfl, hcr, hgr⟩
  · obtain rfl : n = 1 := by omega
    obtain ⟨x, rfl⟩ : ∃ x, t = [x] := List.length_eq_one_iff.1 hl
    clear hl hlen
    obtain ⟨b, o, rfl⟩ := hB.some_ (by omega)
    have c0 : w1.cell? ⟨b, o, none⟩ = some (.int .u8 (x.toNat : Int)) := hB.cellAt (k := 0) (by simp)
    have hxl := byte_lt x
    go_wp2_with fail
    go_ret
    rw [HT0.out, leN_one]
    exact ⟨rfl, hcr, hgr⟩

set_option maxRecDepth 100000 in
set_option maxHeartbeats 1000000 in
theorem refText_read (B g : Nat) (l : List UInt8) (e : Int) (w : World) (h : RR w B g l e) :
    Calls Try.prog 100 #[.pointer (some ⟨g, 0, none⟩)] w fun r w' => r = .returned (.string ⟨(textOf l e).1.toArray⟩) ∧
      RR w' B g (textOf l e).2.1 (textOf l e).2.2 ∧ w.grownBy w' (some g) := by
  have hX : textOf l e = taken (taken l e 2).2.1 (taken l e 2).2.2 (leN (taken l e 2).1) := rfl
  have hsp : (taken l e 2).1 = [] ∧ (taken l e 2).2.2 ≠ 0 ∨ (taken l e 2).1.length = 2 := by
    unfold taken
    split
    · exact .inl ⟨rfl, by simp⟩
    · split
      · exact .inl ⟨rfl, by assumption⟩
      · exact .inr (by simp; omega)
  go_enter Try.func100, Try.ntmps100
  go_upto_region 2 with (go_at_call 109; refine Calls.mono (refTake_any B g l e 2 _ h (by omega)) ?_; rintro r w1 ⟨A, n, c, rfl, hB, hn, hc, hcr, hgr⟩)
  generalize (taken l e 2).1 = t at hB hX hsp
  generalize (taken l e 2).2.1 = l1 at hcr hX
  generalize (taken l e 2).2.2 = e1 at hcr hX hsp
  have HX := Lib.hid hX
  clear hX
  have hl := hB.len
  rcases hsp with ⟨rfl, he⟩ | h2
  · obtain rfl : n = 0 := by rw [← hl]; rfl
    clear hl
    go_wp2_with fail
    go_ret
    rw [HX.out, taken_bad _ _ he]
    exact ⟨rfl, hcr, hgr⟩
  · obtain rfl : n = 2 := by omega
    obtain ⟨x0, x1, rfl⟩ : ∃ x0 x1, t = [x0, x1] := by
      match t, h2 with
      | [x0, x1], _ => exact ⟨x0, x1, rfl⟩
    clear hl h2
    obtain ⟨b, o, rfl⟩ := hB.some_ (by omega)
    have cx0 : w1.cell? ⟨b, o, none⟩ = some (.int .u8 (x0.toNat : Int)) := hB.cellAt (k := 0) (by simp)
    have cx1 : w1.cell? ⟨b, o + 1, none⟩ = some (.int .u8 (x1.toNat : Int)) := hB.cellAt (k := 1) (by simp)
    have hl0 := byte_lt x0
    have hl1 := byte_lt x1
    obtain ⟨k, hk⟩ : ∃ k : Nat, (x0.toNat : Int) + 256 * (x1.toNat : Int) = (k : Int) := ⟨x0.toNat + 256 * x1.toNat, by omega⟩
    have hkl : leN [x0, x1] = k := by simp only [leN, List.foldr_cons, List.foldr_nil]; omega
    rw [hkl] at HX
    clear hkl
    have hk6 : k ≤ 65535 := by omega
    go_upto_region 4 with fail
    refine wp_region_fresh_tail 11 [Is (.pointer (some ⟨g, 0, none⟩)), Is (.slice (some ⟨b, o, none⟩) 2 c), Is (.pointer (some ⟨b, o, none⟩)), Is (.int .u8 (x0.toNat : Int)), Is (.int .i64 (x0.toNat : Int)), Is (.slice (some ⟨b, o, none⟩) 2 c), Is (.pointer (some ⟨b, o + 1, none⟩)), Is (.int .u8 (x1.toNat : Int)), Is (.int .i64 (x1.toNat : Int)), Is (.int .i64 (256 * (x1.toNat : Int))), Is (.int .i64 ((k : Nat) : Int))]
      [[(0, none)], [(3, none)], [(10, some 1)], [(11, some 2)], [(12, some 3)], [(3, none)], [(14, some 5)], [(15, some 6)], [(16, some 7)], [(17, some 8)], [(13, some 4), (18, some 9)]]
      (by kernel_rfl) (by kernel_rfl) (by kernel_rfl) (by kernel_rfl)
      ⟨mono_is _, mono_is _, mono_is _, mono_is _, mono_is _, mono_is _, mono_is _, mono_is _, mono_is _, mono_is _, mono_is _, trivial⟩ ?vc ?fin
    case vc =>
      refine ⟨?_, ?_, ?_, ?_, ?_, ?_, ?_, ?_, ?_, ?_, ?_, trivial⟩
      · exact vf_none rfl (f_mov (.inl rfl) fun A W _ h => h.1)
      · exact vf_none rfl (f_mov (.inl rfl) fun A W _ h => h.1)
      · refine vf_none rfl (f_run fun A' W hR h => ?_)
        obtain ⟨h10, _⟩ := h
        replace h10 : A'.tmps[10]?.getD undef = _ := h10
        refine ⟨_, W, ?_, Below.refl _ _, rfl⟩
        go_simp
      · refine vf_none rfl (f_run fun A' W hR h => ?_)
        obtain ⟨h11, _⟩ := h
        replace h11 : A'.tmps[11]?.getD undef = _ := h11
        have hc := Keeps.of_below hR _ _ cx0
        refine ⟨_, W, ?_, Below.refl _ _, rfl⟩
        go_simp
      · refine vf_none rfl (f_run fun A' W hR h => ?_)
        obtain ⟨h12, _⟩ := h
        replace h12 : A'.tmps[12]?.getD undef = _ := h12
        refine ⟨_, W, ?_, Below.refl _ _, rfl⟩
        go_simp
        all_goals exact IntWalk.i64_in _ (by omega)
      · exact vf_none rfl (f_mov (.inl rfl) fun A W _ h => h.1)
      · refine vf_none rfl (f_run fun A' W hR h => ?_)
        obtain ⟨h14, _⟩ := h
        replace h14 : A'.tmps[14]?.getD undef = _ := h14
        refine ⟨_, W, ?_, Below.refl _ _, rfl⟩
        go_simp
      · refine vf_none rfl (f_run fun A' W hR h => ?_)
        obtain ⟨h15, _⟩ := h
        replace h15 : A'.tmps[15]?.getD undef = _ := h15
        have hc := Keeps.of_below hR _ _ cx1
        refine ⟨_, W, ?_, Below.refl _ _, rfl⟩
        go_simp
      · refine vf_none rfl (f_run fun A' W hR h => ?_)
        obtain ⟨h16, _⟩ := h
        replace h16 : A'.tmps[16]?.getD undef = _ := h16
        refine ⟨_, W, ?_, Below.refl _ _, rfl⟩
        go_simp
        all_goals exact IntWalk.i64_in _ (by omega)
      · refine vf_none rfl (f_run fun A' W hR h => ?_)
        obtain ⟨h17, _⟩ := h
        replace h17 : A'.tmps[17]?.getD undef = _ := h17
        refine ⟨_, W, ?_, Below.refl _ _, rfl⟩
        go_simp
        all_goals exact IntWalk.i64_in _ (by omega)
      · refine vf_none rfl (f_run fun A' W hR h => ?_)
        obtain ⟨h13, h18, _⟩ := h
        replace h13 : A'.tmps[13]?.getD undef = _ := h13
        replace h18 : A'.tmps[18]?.getD undef = _ := h18
        refine ⟨_, W, ?_, Below.refl _ _, rfl⟩
        go_simp
        all_goals (rw [← hk]; exact IntWalk.i64_in _ (by omega))
    case fin =>
      intro A' W hd hs hR he hr
      obtain ⟨e0, e1, e2, e3, e4, e5, e6, e7, e8, e9, e10, _⟩ := he
      have hA' := act_after [9, 10, 11, 12, 13, 14, 15, 16, 17, 18, 19] rfl hd hs hr
      clear hd hs hr
      replace e0 : A'.tmps[9]?.getD undef = _ := e0
      replace e1 : A'.tmps[10]?.getD undef = _ := e1
      replace e2 : A'.tmps[11]?.getD undef = _ := e2
      replace e3 : A'.tmps[12]?.getD undef = _ := e3
      replace e4 : A'.tmps[13]?.getD undef = _ := e4
      replace e5 : A'.tmps[14]?.getD undef = _ := e5
      replace e6 : A'.tmps[15]?.getD undef = _ := e6
      replace e7 : A'.tmps[16]?.getD undef = _ := e7
      replace e8 : A'.tmps[17]?.getD undef = _ := e8
      replace e9 : A'.tmps[18]?.getD undef = _ := e9
      replace e10 : A'.tmps[19]?.getD undef = _ := e10
      simp only [frameAfter, List.contains_cons, List.contains_nil, Nat.reduceBEq, Bool.or_false, Bool.or_true, Bool.or_self, Bool.false_or, Bool.true_or, Bool.false_eq_true, if_true, if_false, Nat.reduceAdd, e0, e1, e2, e3, e4, e5, e6, e7, e8, e9, e10] at hA'
      subst hA'
      clear e0 e1 e2 e3 e4 e5 e6 e7 e8 e9 e10
      go_wp2_with (go_at_call 109; refine Calls.mono (refTake_any B g _ _ k _ (hcr.below hR) (by omega)) ?_; rintro r w2 ⟨A2, n2, c2, rfl, hB2, hn2, hc2, hcr2, hgr2⟩; have hcv := convB (c := c2) hB2)
      go_ret
      rw [HX.out]
      exact ⟨rfl, hcr2, grown_trans hgr (grown_trans (grown_below hR _) hgr2)⟩

set_option maxRecDepth 100000 in
theorem refFail_read (B g : Nat) (l : List UInt8) (e f : Int) (w : World) (h : RR w B g l e) :
    Calls Try.prog 99 #[.pointer (some ⟨g, 0, none⟩), .int .i64 f] w fun r w' => r = .returned (.tuple #[]) ∧ RR w' B g l (if e = 0 then f else e) ∧ w.grownBy w' (some g) := by
  obtain ⟨A, N, c, p, L, hg, hB, hp, hN, hc, hc2, hl, hBg, ha0⟩ := h
  have ha : 0 < N → Away g A := fun h => (ha0 h).away fun b hb => Nat.ne_of_lt (Nat.lt_of_lt_of_le hb hBg)
  have c2 : w.cell? ⟨g, 2, none⟩ = some (.int .i64 e) := cell_of_block hg rfl
  have f2 : w.frozen? ⟨g, 2, none⟩ = false := free_of_block hg
  have HG := Lib.hid hg
  have HLE := Lib.hid hl
  clear hg hl
  by_cases h0 : e = 0
  · subst h0
    rw [if_pos rfl]
    go_enter Try.func99, Try.ntmps99
    go_wp2_with fail
    go_end0
    exact ⟨rfl, ⟨A, N, c, p, L, block_setCell (i := 2) _ HG.out, hB.grownKeep0 (grown_set _ _ _ _) ha, hp, hN, hc, hc2, HLE.out, hBg, ha0⟩, grown_set _ _ _ _⟩
  · rw [if_neg h0]
    have he : (e == 0) = false := by rw [beq_eq_false_iff_ne]; exact h0
    go_enter Try.func99, Try.ntmps99
    go_wp2_with fail
    go_end0
    exact ⟨rfl, ⟨A, N, c, p, L, HG.out, hB, hp, hN, hc, hc2, HLE.out, hBg, ha0⟩, grown_refl _ _⟩

set_option maxRecDepth 100000 in
theorem refEnd_read (B g : Nat) (l : List UInt8) (e : Int) (w : World) (h : RR w B g l e) :
    Calls Try.prog 101 #[.pointer (some ⟨g, 0, none⟩)] w fun r w' => r = .returned (.int .i64 (ended l e)) ∧ Below w.heap.size w w' := by
  obtain ⟨A, N, c, p, L, hg, hB, hp, hN, hc, hc2, hl, hBg, ha0⟩ := h
  have ha : 0 < N → Away g A := fun h => (ha0 h).away fun b hb => Nat.ne_of_lt (Nat.lt_of_lt_of_le hb hBg)
  have hL := hB.len
  have hll : l.length = N - p := by rw [hl, List.length_drop, hL]
  have c0 : w.cell? ⟨g, 0, none⟩ = some (.slice A N c) := cell_of_block hg rfl
  have c1 : w.cell? ⟨g, 1, none⟩ = some (.int .i64 ((p : Nat) : Int)) := cell_of_block hg rfl
  have c2 : w.cell? ⟨g, 2, none⟩ = some (.int .i64 e) := cell_of_block hg rfl
  clear hg hl hL
  have hend : ended l e = if e = 0 ∧ p < N then 9 else e := by
    unfold ended
    rw [hll]
    congr 1
    simp only [eq_iff_iff]
    exact and_congr_right fun _ => by omega
  rw [hend]
  clear hend hll
  by_cases h0 : e = 0
  · subst h0
    by_cases hlt : p < N
    · rw [if_pos ⟨rfl, hlt⟩]
      have hlt' : (p : Int) < N := by omega
      go_enter Try.func101, Try.ntmps101
      go_wp2_with fail
      go_quiet (fail)
      go_wp2_with fail
      go_ret
      exact ⟨rfl, below_drewN' (Below.refl _ _) _⟩
    · rw [if_neg (by omega)]
      have hlt' : ¬ (p : Int) < N := by omega
      go_enter Try.func101, Try.ntmps101
      go_wp2_with fail
      go_quiet (fail)
      go_wp2_with fail
      go_ret
      exact ⟨rfl, below_drewN' (Below.refl _ _) _⟩
  · rw [if_neg (by omega)]
    have he : (e == 0) = false := by rw [beq_eq_false_iff_ne]; exact h0
    go_enter Try.func101, Try.ntmps101
    go_wp2_with fail
    go_quiet (fail)
    go_wp2_with fail
    go_ret
    exact ⟨rfl, below_drewN' (Below.refl _ _) _⟩

theorem refNew_read (B : Nat) (A : Option Addr) (n c : Nat) (l : List UInt8) (w : World) (hA : Bs w A n l) (hn : n ≤ 1099511627776) (hc : n ≤ c) (hc2 : c ≤ 9223372036854775807) (hBw : B ≤ w.heap.size) (hlt : 0 < n → InQ (fun b => b < B) A) :
    Calls Try.prog 96 #[.slice A n c] w fun r w' => ∃ g, r = .returned (.pointer (some ⟨g, 0, none⟩)) ∧ g = w.heap.size ∧ g < w'.heap.size ∧ RR w' B g l 0 ∧ Below w.heap.size w w' := by
  go_enter Try.func96, Try.ntmps96
  go_wp2_with fail
  go_ret
  refine ⟨_, rfl, rfl, by simp, ⟨A, n, c, 0, l, heap_at_new _ _ rfl, hA.alloc _, by omega, hn, hc, hc2, by simp, hBw, hlt⟩, (Below.refl _ _).alloc (Nat.le_refl _) _⟩
/-- another block was written -/
theorem RR.other {B : Nat} {W W' : World} {g g2 : Nat} {l : List UInt8} {e : Int} (h : RR W B g l e) (hg2 : W.grownBy W' (some g2)) (hne : g ≠ g2) (hB2 : B ≤ g2) : RR W' B g l e := by
  obtain ⟨A, N, c, p, L, hg, hB, hp, hN, hc, hc2, hl, hBg, ha0⟩ := h
  refine ⟨A, N, c, p, L, ?_, hB.grownKeep0 hg2 (fun h => (ha0 h).away fun b hb => Nat.ne_of_lt (Nat.lt_of_lt_of_le hb hB2)), hp, hN, hc, hc2, hl, hBg, ha0⟩
  rw [hg2.block g (Array.getElem?_eq_some_iff.1 hg).1 (fun h => hne (by injection h))]
  exact hg
end Go.Proofs.Ytcpifcdndhhmgaa
