/- The document's sum: its contract. -/
import Derived.Test.YtkncomkncfcecaaRsOuter
import Derived.Test.YtkncomkncfcecaaRs8
import Derived.Test.YtkncomkncfcecaaFlashLaws
set_option linter.unusedVariables false
set_option linter.unusedSimpArgs false
namespace Go.Proofs.Ytkncomkncfcecaa
open Go.RowKit
attribute [local go_sem] Y1 Yl Yp ZT Yy Yo ZI ZO Yi ZN ZH ZU
set_option maxRecDepth 100000 in
set_option maxHeartbeats 1600000 in
theorem refSha_any (A : Option Addr) (n c : Nat) (l : List UInt8) (w : World) (hA : Bs w A n l) (hn : n ≤ 1099511627776) :
    Calls Try.prog 18 #[.slice A n c] w fun e w' => e = .returned (.agg (bv (sha l)).toArray) ∧ Below w.heap.size w w' := by
  have HN := Lib.hid hA.len
  refine ZZ Try.func18 rfl Try.ntmps18 rfl [(0, .slice A n c)] rfl ?_
  refine Zv ?_
  refine Zc ?_
  refine YH 29 hashZero rfl rfl rfl rfl ?_
  obtain ⟨w1, hw1⟩ : ∃ w1, w1 = w.alloc (.cells (bv z32).toArray 29) := ⟨_, rfl⟩
  have hb1 : Below w.heap.size w w1 := by rw [hw1]; exact (Below.refl _ _).alloc (Nat.le_refl _) _
  have h2 : w1.heap[w.heap.size]? = some (.cells (bv z32).toArray 29 (0, 0)) := by rw [hw1]; exact heap_alloc_new _ _
  rw [← hw1]
  clear hw1
  have l2 : w.heap.size < w1.heap.size := YM h2
  have H2 := Lib.hid h2
  clear h2
  repeat (first | refine Zv ?_ | refine Zu ?_ | refine Zc ?_ | refine Zq ?_ | refine Zm ?_ | refine Zp ?_ | refine Zw ?_ | refine Zf ?_ | refine Zd rfl ?_ | refine Zj rfl ?_ | refine Ze ?_ | refine Z3 ?_ | refine Zk ?_ | refine Zg ?_ | refine Zi ?_ | refine Zy rfl ?_ | refine Zx rfl ?_ | refine Zz rfl rfl ?_ | refine Zt rfl rfl rfl rfl ?_ | refine Zr rfl rfl rfl ?_ | (first | refine Zb rfl rfl (.inl rfl) rfl rfl ?_ | refine Zb rfl rfl (.inr rfl) rfl rfl ?_ | refine Za rfl rfl (.inl rfl) rfl ?_ | refine Za rfl rfl (.inr rfl) rfl ?_))
  refine Z9 rfl rfl rfl Try.func41 rfl (by kernel_rfl) rfl ?_
  refine Calls.mono (words_any _) ?_
  rintro e w2 ⟨rfl, hb2⟩
  refine ⟨_, rfl, ?_⟩
  refine YH 81 z64Zero rfl rfl rfl rfl ?_
  refine YR 81 w2.heap.size (wv ks).toArray 81 (wv z64).toArray (heap_alloc_new _ _) (info64 _ XN) (size64 _ _ XR XN) (X6 _) rfl rfl rfl rfl rfl ?_
  obtain ⟨w3, hw3⟩ : ∃ w3, w3 = (w2.alloc (.cells (wv z64).toArray 81)).setRow w2.heap.size (wv ks).toArray := ⟨_, rfl⟩
  have hb3 : Below w2.heap.size w2 w3 := by rw [hw3]; exact ZY ((Below.refl _ _).alloc (Nat.le_refl _) _) (Nat.le_refl _) _
  have h3 : w3.heap[w2.heap.size]? = some (.cells (wv ks).toArray 81 (0, 0)) := by rw [hw3]; exact ZQ (heap_alloc_new _ _)
  rw [← hw3]
  clear hw3
  have l3 : w2.heap.size < w3.heap.size := YM h3
  have H3 := Lib.hid h3
  clear h3
  have z2 := hb2.size
  repeat (first | refine Zv ?_ | refine Zu ?_ | refine Zc ?_ | refine Zq ?_ | refine Zm ?_ | refine Zp ?_ | refine Zw ?_ | refine Zf ?_ | refine Zd rfl ?_ | refine Zj rfl ?_ | refine Ze ?_ | refine Z3 ?_ | refine Zk ?_ | refine Zg ?_ | refine Zi ?_ | refine Zy rfl ?_ | refine Zx rfl ?_ | refine Zz rfl rfl ?_ | refine Zt rfl rfl rfl rfl ?_ | refine Zr rfl rfl rfl ?_ | (first | refine Zb rfl rfl (.inl rfl) rfl rfl ?_ | refine Zb rfl rfl (.inr rfl) rfl rfl ?_ | refine Za rfl rfl (.inl rfl) rfl ?_ | refine Za rfl rfl (.inr rfl) rfl ?_))
  refine Yr 83 _ (wv st0.words).toArray rfl rfl rfl (by rfl) (by rfl) (by kernel_rfl) ?_
  refine YH 83 st8Zero rfl rfl rfl rfl ?_
  refine YR 83 w3.heap.size (wv st0.words).toArray 83 (wv z8).toArray (heap_alloc_new _ _) (infoR _ rfl) (size8 _ _ z8_len rfl) (X6 _) rfl rfl rfl rfl rfl ?_
  obtain ⟨w4, hw4⟩ : ∃ w4, w4 = (w3.alloc (.cells (wv z8).toArray 83)).setRow w3.heap.size (wv st0.words).toArray := ⟨_, rfl⟩
  have hb4 : Below w3.heap.size w3 w4 := by rw [hw4]; exact ZY ((Below.refl _ _).alloc (Nat.le_refl _) _) (Nat.le_refl _) _
  have h4 : w4.heap[w3.heap.size]? = some (.cells (wv st0.words).toArray 83 (0, 0)) := by rw [hw4]; exact ZQ (heap_alloc_new _ _)
  rw [← hw4]
  clear hw4
  have l4 : w3.heap.size < w4.heap.size := YM h4
  have hb24 := X5 hb3 hb4
  have hb14 := X5 hb2 hb24
  have hbw := X5 hb1 hb14
  have H2 : Hid (w4.heap[w.heap.size]? = some (.cells (bv z32).toArray 29 (0, 0))) := YG hb14 H2.out
  have H3 : Hid (w4.heap[w2.heap.size]? = some (.cells (wv ks).toArray 81 (0, 0))) := YG hb4 H3.out
  have H4 := Lib.hid h4
  clear h4 hb1 hb2 hb3 hb4 hb24 hb14
  obtain ⟨g2, hg2⟩ : ∃ g, w.heap.size = g := ⟨_, rfl⟩
  obtain ⟨g3, hg3⟩ : ∃ g, w2.heap.size = g := ⟨_, rfl⟩
  obtain ⟨g4, hg4⟩ : ∃ g, w3.heap.size = g := ⟨_, rfl⟩
  rw [hg4] at H4 ⊢
  rw [hg3] at H3 ⊢
  rw [hg2] at H2 ⊢
  have b2 : w.heap.size ≤ g2 := by omega
  have b3 : w.heap.size ≤ g3 := by omega
  have b4 : w.heap.size ≤ g4 := by omega
  have n23 : g2 ≠ g3 := by omega
  have n24 : g2 ≠ g4 := by omega
  have n34 : g3 ≠ g4 := by omega
  have l2 : g2 < w4.heap.size := by omega
  have l3 : g3 < w4.heap.size := by omega
  have l4 : g4 < w4.heap.size := by omega
  have hA4 := hA.keep (.of_below hbw)
  have HG2 := Lib.hid hg2
  clear hg2 hg3 hg4 z2
  refine Zq ?_
  refine Zm ?_
  refine KW.less [0, 2, 3, 4] ?_
  simp only [nrm, lk, Nat.reduceBEq, cond_true, cond_false]
  refine Zv ?_
  refine Zc ?_
  ((first | refine Zn rfl rfl rfl fun K hK => ?_ | refine Zh rfl rfl rfl fun K hK => ?_); go_simp; (try go_bits); (first | refine hK _ _ ?_ | refine hK _ ?_); clear hK K)
  (first | refine Zb rfl rfl (.inl rfl) rfl rfl ?_ | refine Zb rfl rfl (.inr rfl) rfl rfl ?_ | refine Za rfl rfl (.inl rfl) rfl ?_ | refine Za rfl rfl (.inr rfl) rfl ?_)
  refine kl_clone _ rfl _ _ _ l hA4 (by omega) rfl rfl rfl rfl rfl rfl ?_
  intro v5 w5 hown5 hb5
  obtain ⟨A5, c5, rfl, o1, o2, o3, _⟩ := ZP hown5
  have B5 := hb5.size
  (first | refine Zb rfl rfl (.inl rfl) rfl rfl ?_ | refine Zb rfl rfl (.inr rfl) rfl rfl ?_ | refine Za rfl rfl (.inl rfl) rfl ?_ | refine Za rfl rfl (.inr rfl) rfl ?_)
  refine Zq ?_
  refine Zm ?_
  refine Zv ?_
  refine Zc ?_
  (first | refine Zb rfl rfl (.inl rfl) rfl rfl ?_ | refine Zb rfl rfl (.inr rfl) rfl rfl ?_ | refine Za rfl rfl (.inl rfl) rfl ?_ | refine Za rfl rfl (.inr rfl) rfl ?_)
  ((first | refine Zn rfl rfl rfl fun K hK => ?_ | refine Zh rfl rfl rfl fun K hK => ?_); go_simp; (try go_bits); (first | refine hK _ _ ?_ | refine hK _ ?_); clear hK K)
  refine Vf w4.heap.size _ n l (hown5.alloc _) _ 1 1 [0x80] (lit8 w5 0x80) (by omega) (by simp; omega) rfl rfl rfl rfl rfl rfl ?_
  intro v6 w6 hown6 hg6 hat6
  have hb6 := Yq (hb5.alloc B5 (.cells #[.int .u8 128] 5)) hg6 (hown5.alloc _) (by simp; omega)
  have hz := zeros_lt n
  have hz2 := zeros_eq n
  have hzb : zeros n < 64 := Nat.mod_lt _ (by omega)
  have HZ := Lib.hid hz
  have HZ2 := Lib.hid hz2
  clear hz hz2 hA4
  (first | refine Zb rfl rfl (.inl rfl) rfl rfl ?_ | refine Zb rfl rfl (.inr rfl) rfl rfl ?_ | refine Za rfl rfl (.inl rfl) rfl ?_ | refine Za rfl rfl (.inr rfl) rfl ?_)
  refine Zq ?_
  refine Zm ?_
  refine KW.less [0, 2, 3, 4, 5] ?_
  simp only [nrm, lk, Nat.reduceBEq, cond_true, cond_false]
  refine Zv ?_
  refine Zs ?_
  refine Yw (fun mu L' wr => ∃ (k m : Nat) (v : Value), k ≤ zeros n ∧ mu = zeros n - k ∧ Hid (m = n + 1 + k) ∧ m ≤ n + 64 ∧ wr.ownsRow w4.heap.size 5 1 v m (bv (padZ l k)) ∧ Below w4.heap.size w4 wr ∧
      L' = [(0, .slice A n c), (2, .pointer (some ⟨g2, 0, none⟩)), (3, .pointer (some ⟨g3, 0, none⟩)), (4, .pointer (some ⟨g4, 0, none⟩)), (5, v)]) ⟨0, n + 1, v6, by omega, rfl, rfl, by omega, by rw [show padZ l 0 = l ++ [128] by simp [padZ]]; exact hown6, hb6, rfl⟩ ?_
  clear hown6 hb6 hat6 hg6 hown5 hb5 o1 o2 o3 B5
  rintro mu L' wr ⟨k, m, v, hk, rfl, hm, hm64, hown, hb, rfl⟩
  obtain ⟨A3, c3, rfl, p1, p2, p3, _⟩ := ZP hown
  have hsz := hb.size
  by_cases hlt : k < zeros n
  · have h56 : ((m : Int) % 64 == 56) = false := by have := HZ.out k hlt; have := hm.out; rw [beq_eq_false_iff_ne]; omega
    have h56' : ((m : Int) % 64 != 56) = true := by rw [bne_iff_ne]; rw [beq_eq_false_iff_ne] at h56; exact h56
    repeat (first | refine Zv ?_ | refine Zu ?_ | refine Zc ?_ | refine Zq ?_ | refine Zm ?_ | refine Zp ?_ | refine Zw ?_ | refine Zf ?_ | refine Zd rfl ?_ | refine Zj rfl ?_ | refine Ze ?_ | refine Z3 ?_ | refine Zk ?_ | refine Zg ?_ | refine Zi ?_ | refine Zy rfl ?_ | refine Zx rfl ?_ | refine Zz rfl rfl ?_ | refine Zt rfl rfl rfl rfl ?_ | refine Zr rfl rfl rfl ?_ | (first | refine Zb rfl rfl (.inl rfl) rfl rfl ?_ | refine Zb rfl rfl (.inr rfl) rfl rfl ?_ | refine Za rfl rfl (.inl rfl) rfl ?_ | refine Za rfl rfl (.inr rfl) rfl ?_) | ((first | refine Zn rfl rfl rfl fun K hK => ?_ | refine Zh rfl rfl rfl fun K hK => ?_); go_simp; (try go_bits); (first | refine hK _ _ ?_ | refine hK _ ?_); clear hK K))
    refine Zs ?_
    refine Zc ?_
    (first | refine Zb rfl rfl (.inl rfl) rfl rfl ?_ | refine Zb rfl rfl (.inr rfl) rfl rfl ?_ | refine Za rfl rfl (.inl rfl) rfl ?_ | refine Za rfl rfl (.inr rfl) rfl ?_)
    ((first | refine Zn rfl rfl rfl fun K hK => ?_ | refine Zh rfl rfl rfl fun K hK => ?_); go_simp; (try go_bits); (first | refine hK _ _ ?_ | refine hK _ ?_); clear hK K)
    refine Vf w4.heap.size _ m (padZ l k) (hown.alloc _) _ 1 1 [0] (lit8 wr 0) (by omega) (by simp; omega) rfl rfl rfl rfl rfl rfl ?_
    intro v7 w7 hown7 hg7 hat7
    (first | refine Zb rfl rfl (.inl rfl) rfl rfl ?_ | refine Zb rfl rfl (.inr rfl) rfl rfl ?_ | refine Za rfl rfl (.inl rfl) rfl ?_ | refine Za rfl rfl (.inr rfl) rfl ?_)
    refine Zq ?_
    refine Zp ?_
    refine Yk (zeros n - (k + 1)) [0, 2, 3, 4, 5] (by omega) ?_
    simp only [nrm, lk, Nat.reduceBEq, cond_true, cond_false]
    refine ⟨k + 1, m + 1, v7, by omega, rfl, by show m + 1 = n + 1 + (k + 1); rw [hm.out]; omega, by have := hm.out; omega, ?_, Yq (hb.alloc hsz _) hg7 (hown.alloc _) (by simp; omega), rfl⟩
    rw [← padZ_next]
    exact hown7
  · obtain rfl : k = zeros n := by omega
    have h56 : ((m : Int) % 64 == 56) = true := by have := HZ2.out; have := hm.out; rw [beq_iff_eq]; omega
    have h56' : ((m : Int) % 64 != 56) = false := by rw [beq_iff_eq] at h56; rw [h56]; rfl
    have h0 : padZ l (zeros n) = padL l 0 := by unfold padL; rw [HN.out, show lenBytes n 0 = [] from rfl, List.append_nil]
    rw [h0] at hown
    clear h0
    have e8 : IntKind.u64.wrap ((n : Int) * 8) = n * 8 := by show (n : Int) * 8 % 18446744073709551616 = _; omega
    have e8' : (n : Int) * 8 % 18446744073709551616 = n * 8 := by omega
    have e9 : IntKind.u64.wrap (n : Int) = n := by show (n : Int) % 18446744073709551616 = _; omega
    have e9' : (n : Int) % 18446744073709551616 = n := by omega
    repeat (first | refine Zv ?_ | refine Zu ?_ | refine Zc ?_ | refine Zq ?_ | refine Zm ?_ | refine Zp ?_ | refine Zw ?_ | refine Zf ?_ | refine Zd rfl ?_ | refine Zj rfl ?_ | refine Ze ?_ | refine Z3 ?_ | refine Zk ?_ | refine Zg ?_ | refine Zi ?_ | refine Zy rfl ?_ | refine Zx rfl ?_ | refine Zz rfl rfl ?_ | refine Zt rfl rfl rfl rfl ?_ | refine Zr rfl rfl rfl ?_ | (first | refine Zb rfl rfl (.inl rfl) rfl rfl ?_ | refine Zb rfl rfl (.inr rfl) rfl rfl ?_ | refine Za rfl rfl (.inl rfl) rfl ?_ | refine Za rfl rfl (.inr rfl) rfl ?_) | ((first | refine Zn rfl rfl rfl fun K hK => ?_ | refine Zh rfl rfl rfl fun K hK => ?_); go_simp; (try go_bits); (first | refine hK _ _ ?_ | refine hK _ ?_); clear hK K))
    clear h56 h56' e8 e8' e9 e9'
    refine KW.less [2, 3, 4, 5, 6, 7] ?_
    simp only [nrm, lk, Nat.reduceBEq, cond_true, cond_false]
    refine Zs ?_
    refine Yw (fun mu L' wr => ∃ (k q : Nat) (v : Value), k ≤ 8 ∧ mu = k ∧ Hid (q = m + (8 - k)) ∧ q ≤ n + 72 ∧ wr.ownsRow w4.heap.size 5 1 v q (bv (padL l (8 - k))) ∧ Below w4.heap.size w4 wr ∧
        L' = [(2, .pointer (some ⟨g2, 0, none⟩)), (3, .pointer (some ⟨g3, 0, none⟩)), (4, .pointer (some ⟨g4, 0, none⟩)), (5, v), (6, .int .u64 ((n : Int) * 8)), (7, .int .i64 ((k : Int) - 1))]) ⟨8, m, _, by omega, rfl, rfl, by omega, hown, hb, rfl⟩ ?_
    clear hown hb p3 p2 p1 hsz
    rintro k L' wr ⟨_, q, v, hk8, rfl, hq, hq72, hown, hb, rfl⟩
    obtain ⟨A4, c4, rfl, p1, p2, p3, _⟩ := ZP hown
    have hsz := hb.size
    by_cases hlt : 0 < k
    · obtain ⟨i, rfl⟩ : ∃ i, k = i + 1 := ⟨k - 1, by omega⟩
      rw [show ((i + 1 : Nat) : Int) - 1 = i by omega]
      have hj1 : (i : Int) < 8 := by omega
      have hj0 : (0 : Int) ≤ i := by omega
      have e1 : IntKind.u64.wrap (i : Int) = i := by show (i : Int) % 18446744073709551616 = _; omega
      have e1' : (i : Int) % 18446744073709551616 = i := by omega
      have e2 : IntKind.u64.wrap (8 * (i : Int)) = 8 * i := by show 8 * (i : Int) % 18446744073709551616 = _; omega
      have e2' : 8 * (i : Int) % 18446744073709551616 = 8 * i := by omega
      obtain ⟨x, hx, hxe⟩ := len_byteR n i
      have HX := Lib.hid hxe
      clear hxe
      repeat (first | refine Zv ?_ | refine Zu ?_ | refine Zc ?_ | refine Zq ?_ | refine Zm ?_ | refine Zp ?_ | refine Zw ?_ | refine Zf ?_ | refine Zd rfl ?_ | refine Zj rfl ?_ | refine Ze ?_ | refine Z3 ?_ | refine Zk ?_ | refine Zg ?_ | refine Zi ?_ | refine Zy rfl ?_ | refine Zx rfl ?_ | refine Zz rfl rfl ?_ | refine Zt rfl rfl rfl rfl ?_ | refine Zr rfl rfl rfl ?_ | (first | refine Zb rfl rfl (.inl rfl) rfl rfl ?_ | refine Zb rfl rfl (.inr rfl) rfl rfl ?_ | refine Za rfl rfl (.inl rfl) rfl ?_ | refine Za rfl rfl (.inr rfl) rfl ?_) | ((first | refine Zn rfl rfl rfl fun K hK => ?_ | refine Zh rfl rfl rfl fun K hK => ?_); go_simp; (try go_bits); (first | refine hK _ _ ?_ | refine hK _ ?_); clear hK K))
      refine Zs ?_
      repeat (first | refine Zv ?_ | refine Zu ?_ | refine Zc ?_ | refine Zq ?_ | refine Zm ?_ | refine Zp ?_ | refine Zw ?_ | refine Zf ?_ | refine Zd rfl ?_ | refine Zj rfl ?_ | refine Ze ?_ | refine Z3 ?_ | refine Zk ?_ | refine Zg ?_ | refine Zi ?_ | refine Zy rfl ?_ | refine Zx rfl ?_ | refine Zz rfl rfl ?_ | refine Zt rfl rfl rfl rfl ?_ | refine Zr rfl rfl rfl ?_ | (first | refine Zb rfl rfl (.inl rfl) rfl rfl ?_ | refine Zb rfl rfl (.inr rfl) rfl rfl ?_ | refine Za rfl rfl (.inl rfl) rfl ?_ | refine Za rfl rfl (.inr rfl) rfl ?_) | ((first | refine Zn rfl rfl rfl fun K hK => ?_ | refine Zh rfl rfl rfl fun K hK => ?_); go_simp; (try go_bits); (first | refine hK _ _ ?_ | refine hK _ ?_); clear hK K))
      refine Vf w4.heap.size _ q (padL l (8 - (i + 1))) (hown.alloc _) _ 1 1 [x] (lit8 wr x) (by omega) (by simp; omega) rfl rfl rfl rfl rfl rfl ?_
      intro v8 w8 hown8 hg8 hat8
      repeat (first | refine Zv ?_ | refine Zu ?_ | refine Zc ?_ | refine Zq ?_ | refine Zm ?_ | refine Zp ?_ | refine Zw ?_ | refine Zf ?_ | refine Zd rfl ?_ | refine Zj rfl ?_ | refine Ze ?_ | refine Z3 ?_ | refine Zk ?_ | refine Zg ?_ | refine Zi ?_ | refine Zy rfl ?_ | refine Zx rfl ?_ | refine Zz rfl rfl ?_ | refine Zt rfl rfl rfl rfl ?_ | refine Zr rfl rfl rfl ?_ | (first | refine Zb rfl rfl (.inl rfl) rfl rfl ?_ | refine Zb rfl rfl (.inr rfl) rfl rfl ?_ | refine Za rfl rfl (.inl rfl) rfl ?_ | refine Za rfl rfl (.inr rfl) rfl ?_) | ((first | refine Zn rfl rfl rfl fun K hK => ?_ | refine Zh rfl rfl rfl fun K hK => ?_); go_simp; (try go_bits); (first | refine hK _ _ ?_ | refine hK _ ?_); clear hK K))
      refine Yk i [2, 3, 4, 5, 6, 7] (by omega) ?_
      simp only [nrm, lk, Nat.reduceBEq, cond_true, cond_false]
      refine ⟨i, q + 1, v8, by omega, rfl, by show q + 1 = m + (8 - i); rw [hq.out]; omega, by have := hq.out; omega, ?_, Yq (hb.alloc hsz _) hg8 (hown.alloc _) (by simp; omega), by congr 1⟩
      have h8 : 8 - i = (8 - (i + 1)) + 1 := by omega
      have he : 56 - 8 * (8 - (i + 1)) = 8 * i := by omega
      rw [h8, ← padL_next l (8 - (i + 1)) x (by rw [HN.out, he]; exact HX.out)]
      exact hown8
    · obtain rfl : k = 0 := by omega
      rw [show ((0 : Nat) : Int) - 1 = -1 by omega]
      have hqN := hq.out
      have hmN := hm.out
      obtain ⟨T, hT⟩ : ∃ T, q = 64 * T := ⟨q / 64, by have := HZ2.out; omega⟩
      obtain ⟨P, hP⟩ : ∃ P, padL l 8 = P := ⟨_, rfl⟩
      have hsha : Hid (sha l = outB (blks P T).words 32) := by
        show sha l = _
        unfold sha
        have hl : (padS l).length = q := by rw [padS_eq, ← Ye]; exact p3.1
        rw [hl, padS_eq, hP, show q / 64 = T by omega]
      rw [show 8 - 0 = 8 from rfl, hP] at p3
      obtain ⟨b, o, rfl⟩ := p3.some_ (by omega)
      have hB : Bs wr (some ⟨b, o, none⟩) q P := p3
      have hbr : b < wr.heap.size := bs_lt hB (by omega)
      have HT := Lib.hid hT
      have hbase : w4.heap.size ≤ b := by
        obtain ⟨g', c', hv, hg', _⟩ := hown.form (by omega)
        injection hv with e1 e2 e3
        injection e1 with e1
        injection e1 with e1 e4
        omega
      have H2 : Hid (wr.heap[g2]? = some (.cells (bv z32).toArray 29 (0, 0))) := YG hb H2.out
      have H3 : Hid (wr.heap[g3]? = some (.cells (wv ks).toArray 81 (0, 0))) := YG hb H3.out
      have H4 : Hid (wr.heap[g4]? = some (.cells (wv (blks P 0).words).toArray 83 (0, 0))) := YG hb H4.out
      have hbw := Z1 hbw hb hbw.size
      have p2' : c4 ≤ 9223372036854775807 := by simpa [maxLen] using p2
      have lr := hb.size
      clear hown hqN hmN hm hq hP hT p3 hm64 hb p2
      repeat (first | refine Zv ?_ | refine Zu ?_ | refine Zc ?_ | refine Zq ?_ | refine Zm ?_ | refine Zp ?_ | refine Zw ?_ | refine Zf ?_ | refine Zd rfl ?_ | refine Zj rfl ?_ | refine Ze ?_ | refine Z3 ?_ | refine Zk ?_ | refine Zg ?_ | refine Zi ?_ | refine Zy rfl ?_ | refine Zx rfl ?_ | refine Zz rfl rfl ?_ | refine Zt rfl rfl rfl rfl ?_ | refine Zr rfl rfl rfl ?_ | (first | refine Zb rfl rfl (.inl rfl) rfl rfl ?_ | refine Zb rfl rfl (.inr rfl) rfl rfl ?_ | refine Za rfl rfl (.inl rfl) rfl ?_ | refine Za rfl rfl (.inr rfl) rfl ?_))
      ((first | refine Zn rfl rfl rfl fun K hK => ?_ | refine Zh rfl rfl rfl fun K hK => ?_); go_simp; (try go_bits); (first | refine hK _ _ ?_ | refine hK _ ?_); clear hK K)
      repeat (first | refine Zv ?_ | refine Zu ?_ | refine Zc ?_ | refine Zq ?_ | refine Zm ?_ | refine Zp ?_ | refine Zw ?_ | refine Zf ?_ | refine Zd rfl ?_ | refine Zj rfl ?_ | refine Ze ?_ | refine Z3 ?_ | refine Zk ?_ | refine Zg ?_ | refine Zi ?_ | refine Zy rfl ?_ | refine Zx rfl ?_ | refine Zz rfl rfl ?_ | refine Zt rfl rfl rfl rfl ?_ | refine Zr rfl rfl rfl ?_ | (first | refine Zb rfl rfl (.inl rfl) rfl rfl ?_ | refine Zb rfl rfl (.inr rfl) rfl rfl ?_ | refine Za rfl rfl (.inl rfl) rfl ?_ | refine Za rfl rfl (.inr rfl) rfl ?_))
      refine YH 81 z64Zero rfl rfl rfl rfl ?_
      obtain ⟨w9, hw9⟩ : ∃ w9, w9 = wr.alloc (.cells (wv z64).toArray 81) := ⟨_, rfl⟩
      have hb9 : Below wr.heap.size wr w9 := by rw [hw9]; exact (Below.refl _ _).alloc (Nat.le_refl _) _
      have h8 : w9.heap[wr.heap.size]? = some (.cells (wv z64).toArray 81 (0, 0)) := by rw [hw9]; exact heap_alloc_new _ _
      rw [← hw9]
      clear hw9
      have l8 := YM h8
      have hS : Sh w b o q P g2 g3 g4 wr.heap.size (blks P 0).words z64 w9 := ⟨hB.keep (.of_below hb9), Z1 hbw hb9 hbw.size, YG hb9 H2.out, YG hb9 H3.out, YG hb9 H4.out, h8⟩
      have ha : Ap w b g2 g3 g4 wr.heap.size := ⟨by omega, by omega, by omega, by omega, by omega, by omega, by omega, by omega, by omega, by omega, by omega, by omega, hbw.size⟩
      have HS := Lib.hid hS
      clear hS h8 hB H2 H3 H4 hb9
      repeat (first | refine Zv ?_ | refine Zu ?_ | refine Zc ?_ | refine Zq ?_ | refine Zm ?_ | refine Zp ?_ | refine Zw ?_ | refine Zf ?_ | refine Zd rfl ?_ | refine Zj rfl ?_ | refine Ze ?_ | refine Z3 ?_ | refine Zk ?_ | refine Zg ?_ | refine Zi ?_ | refine Zy rfl ?_ | refine Zx rfl ?_ | refine Zz rfl rfl ?_ | refine Zt rfl rfl rfl rfl ?_ | refine Zr rfl rfl rfl ?_ | (first | refine Zb rfl rfl (.inl rfl) rfl rfl ?_ | refine Zb rfl rfl (.inr rfl) rfl rfl ?_ | refine Za rfl rfl (.inl rfl) rfl ?_ | refine Za rfl rfl (.inr rfl) rfl ?_) | ((first | refine Zn rfl rfl rfl fun K hK => ?_ | refine Zh rfl rfl rfl fun K hK => ?_); go_simp; (try go_bits); (first | refine hK _ _ ?_ | refine hK _ ?_); clear hK K))
      refine KW.less [2, 3, 4, 5, 8, 9] ?_
      simp only [nrm, lk, Nat.reduceBEq, cond_true, cond_false]
      refine rs_outer ha (by omega) (by omega) p1 p2' HT XR HS.out fun wr' hbw' h2' h4' => ?_
      obtain ⟨F, hF⟩ : ∃ F, (blks P T).words = F := ⟨_, rfl⟩
      have hFl : Hid (F.length = 8) := by show _ = _; rw [← hF]; rfl
      rw [hF] at h4' hsha
      have H2 := Lib.hid h2'
      have H4 := Lib.hid h4'
      clear h2' h4' hF HS
      refine Zm ?_
      refine Zv ?_
      refine Zc ?_
      refine YH 29 hashZero rfl rfl rfl rfl ?_
      obtain ⟨w7, hw7⟩ : ∃ w7, w7 = wr'.alloc (.cells (bv z32).toArray 29) := ⟨_, rfl⟩
      have hb7 : Below wr'.heap.size wr' w7 := by rw [hw7]; exact (Below.refl _ _).alloc (Nat.le_refl _) _
      have h7 : w7.heap[wr'.heap.size]? = some (.cells (bv (outB F (4 * 0) ++ List.replicate (32 - 4 * 0) 0)).toArray 29 (0, 0)) := by rw [hw7]; exact heap_alloc_new _ _
      rw [← hw7]
      clear hw7
      have h2 := YG hb7 H2.out
      have h4 := YG hb7 H4.out
      have m2 := YM H2.out
      have m4 := YM H4.out
      have s7 := hbw'.size
      have hbw7 := Z1 hbw' hb7 hbw'.size
      have H2 := Lib.hid h2
      have H4 := Lib.hid h4
      have H7 := Lib.hid h7
      clear h2 h4 h7
      repeat (first | refine Zv ?_ | refine Zu ?_ | refine Zc ?_ | refine Zq ?_ | refine Zm ?_ | refine Zp ?_ | refine Zw ?_ | refine Zf ?_ | refine Zd rfl ?_ | refine Zj rfl ?_ | refine Ze ?_ | refine Z3 ?_ | refine Zk ?_ | refine Zg ?_ | refine Zi ?_ | refine Zy rfl ?_ | refine Zx rfl ?_ | refine Zz rfl rfl ?_ | refine Zt rfl rfl rfl rfl ?_ | refine Zr rfl rfl rfl ?_ | (first | refine Zb rfl rfl (.inl rfl) rfl rfl ?_ | refine Zb rfl rfl (.inr rfl) rfl rfl ?_ | refine Za rfl rfl (.inl rfl) rfl ?_ | refine Za rfl rfl (.inr rfl) rfl ?_) | ((first | refine Zn rfl rfl rfl fun K hK => ?_ | refine Zh rfl rfl rfl fun K hK => ?_); go_simp; (try go_bits); (first | refine hK _ _ ?_ | refine hK _ ?_); clear hK K))
      refine KW.less [2, 4, 21, 22] ?_
      simp only [nrm, lk, Nat.reduceBEq, cond_true, cond_false]
      refine rs_loop8 hFl (by omega) (by omega) s7 hbw7 H2.out H4.out H7.out fun wr8 hbw8 h28 h78 => ?_
      obtain ⟨S, hS⟩ : ∃ S, outB F 32 = S := ⟨_, rfl⟩
      have hSl : S.length = 32 := by rw [← hS]; exact Xh F 32
      rw [hS] at hsha h78
      refine Zm ?_
      refine Zv ?_
      refine Zc ?_
      refine X2 29 wr'.heap.size _ _ _ _ h78 hashUnder rfl (infoH S hSl) rfl rfl rfl rfl rfl ?_
      refine YR 29 g2 (bv S).toArray _ _ h28 (infoH S hSl) (sizeH z32 S ZL hSl) (bv_one' _) rfl rfl rfl rfl rfl ?_
      refine Zq ?_
      refine Zm ?_
      refine Z3 ?_
      refine YO (v := .agg (bv S).toArray) (fun a k => results_cell_row (p := 2) (ty := 29) rfl _ _ g2 29 (bv S).toArray (0, 0) _ (k.slot 2 rfl) (ZQ h28) hashUnder rfl (infoH S hSl)) ⟨by rw [hsha.out], by have h := ZY hbw8 b2 (bv S).toArray; rw [HG2.out] at h; exact h⟩
end Go.Proofs.Ytkncomkncfcecaa
