/- The document's sum: the rounds are added. The document's sum: the pieces, one behind the other. -/
import Derived.Test.YtkncomkncfcecaaRs
import Derived.Test.YtkncomkncfcecaaRs4
import Derived.Test.YtkncomkncfcecaaRs5
import Derived.Test.YtkncomkncfcecaaRs6
set_option linter.unusedVariables false
set_option linter.unusedSimpArgs false
namespace Go.Proofs.Ytkncomkncfcecaa
open Go.RowKit
attribute [local go_sem] Y1 Yl Yp ZT Yy Yo ZI ZO Yi ZN ZH ZU
set_option maxRecDepth 100000 in
set_option maxHeartbeats 1600000 in
theorem rs_loop7 {Q : Exit → Act → World → Prop} {w wr : World} {b o q c5 p g2 g3 g4 g8 g15 : Nat} {P : List UInt8} {L : List W32} {s0 t : ShaSt} (ha : Ap w b g2 g3 g4 g8) (ha15 : A15 w b g2 g3 g4 g8 g15)
    (h : Sh w b o q P g2 g3 g4 g8 s0.words L wr) (h15 : wr.heap[g15]? = some (.cells (wv t.words).toArray 83 (0, 0)))
    (hQ : ∀ wr', Sh w b o q P g2 g3 g4 g8 (addSt s0 t).words L wr' → KQ Q .normal 278 [(2, .pointer (some ⟨g2, 0, none⟩)), (3, .pointer (some ⟨g3, 0, none⟩)), (4, .pointer (some ⟨g4, 0, none⟩)), (5, .slice (some ⟨b, o, none⟩) q c5), (8, .pointer (some ⟨g8, 0, none⟩)), (9, .int .i64 (p : Int))] wr') :
    KW Try.prog (blockOf Try.f18 12) Q 278 [(2, .pointer (some ⟨g2, 0, none⟩)), (3, .pointer (some ⟨g3, 0, none⟩)), (4, .pointer (some ⟨g4, 0, none⟩)), (5, .slice (some ⟨b, o, none⟩) q c5), (8, .pointer (some ⟨g8, 0, none⟩)), (9, .int .i64 (p : Int)), (15, .pointer (some ⟨g15, 0, none⟩)), (20, .int .i64 0)] wr := by
  conv => arg 2; whnf
  have HQ := Lib.hid hQ
  clear hQ
  refine Zs ?_
  refine Yw (fun m L' wr => ∃ (k : Nat), k ≤ 8 ∧ m = 8 - k ∧ L' = [(2, .pointer (some ⟨g2, 0, none⟩)), (3, .pointer (some ⟨g3, 0, none⟩)), (4, .pointer (some ⟨g4, 0, none⟩)), (5, .slice (some ⟨b, o, none⟩) q c5), (8, .pointer (some ⟨g8, 0, none⟩)), (9, .int .i64 (p : Int)), (15, .pointer (some ⟨g15, 0, none⟩)), (20, .int .i64 (k : Int))] ∧ Sh w b o q P g2 g3 g4 g8 (addW s0.words t.words k) L wr ∧ wr.heap[g15]? = some (.cells (wv t.words).toArray 83 (0, 0))) ⟨0, by omega, rfl, rfl, h, h15⟩ ?_
  clear h h15 wr
  rintro m L' wr ⟨k, hk, rfl, rfl, h, h15⟩
  have HS := Lib.hid h
  have H15 := Lib.hid h15
  by_cases hlt7 : k < 8
  · have hk1 : (k : Int) < 8 := by omega
    have hk0 : (0 : Int) ≤ k := by omega
    have hlen : k < (addW s0.words t.words k).length := by rw [length_addW s0.words t.words rfl k hk]; exact hlt7
    have ct := YA h.h4 hlen
    have cs := YA h15 (i := k) hlt7
    have hst := addW_set s0.words t.words rfl k hlt7
    rw [addW_get s0.words t.words rfl k hlt7] at ct
    obtain ⟨xt, hxt⟩ : ∃ x, s0.words.getD k 0 = x := ⟨_, rfl⟩
    obtain ⟨xs, hxs⟩ : ∃ x, t.words.getD k 0 = x := ⟨_, rfl⟩
    rw [hxt] at ct hst
    rw [hxs] at cs hst
    have HST := Lib.hid hst
    have HXT := Lib.hid hxt
    clear hst hxt hxs h h15
    have HL := Lib.hid hlen
    clear hlen
    repeat (first | refine Zv ?_ | refine Zs ?_ | refine Zu ?_ | refine Zc ?_ | refine Zq ?_ | refine Zm ?_ | refine Zp ?_ | refine Zw ?_ | refine Zf ?_ | refine Zd rfl ?_ | refine Zj rfl ?_ | refine Ze ?_ | refine Z3 ?_ | refine Zk ?_ | refine Zg ?_ | refine Zi ?_ | refine Zy rfl ?_ | refine Zx rfl ?_ | refine Zz rfl rfl ?_ | refine Zt rfl rfl rfl rfl ?_ | refine Zr rfl rfl rfl ?_ | (first | refine Zb rfl rfl (.inl rfl) rfl rfl ?_ | refine Zb rfl rfl (.inr rfl) rfl rfl ?_ | refine Za rfl rfl (.inl rfl) rfl ?_ | refine Za rfl rfl (.inr rfl) rfl ?_) | ((first | refine Zn rfl rfl rfl fun K hK => ?_ | refine Zh rfl rfl rfl fun K hK => ?_); go_simp; (try go_bits); (first | refine hK _ _ ?_ | refine hK _ ?_); clear hK K))
    refine KW.less [2, 3, 4, 5, 8, 9, 15, 20] ?_
    simp only [nrm, lk, Nat.reduceBEq, cond_true, cond_false]
    refine We 8 [none, none, none, none, none, none, none, none]
      [[(20, none)], [(4, none), (231, some 0)], [(232, some 1)], [(20, none)], [(15, none), (234, some 3)], [(235, some 4)], [(233, some 2), (236, some 5)], [(4, none), (231, some 0)]]
      [2, 3, 4, 5, 8, 9, 15, 20] (by kernel_rfl) (by kernel_rfl) (by kernel_rfl) (by kernel_rfl) (by kernel_rfl)
      trivial ?_
    repeat (first | apply W5 | apply W8)
    refine exs_nil (And.intro ?v3_vc ?v3_fin)
    case v3_vc =>
      refine ⟨?_, ?_, ?_, ?_, ?_, ?_, ?_, ?_, trivial⟩
      · exact Yz rfl (.inl rfl) fun A W _ h => h.1 _ rfl
      · refine ZA rfl fun A W hR h N hN => ?_
        refine ZV N ?_
        obtain ⟨h4, h231, _⟩ := h
        have h4 := h4 _ rfl
        replace h231 : A.tmps[231]?.getD undef = _ := h231
        go_simp
        (try go_bits)
        exact hN _ _ (Below.refl _ _) rfl
      · refine ZA rfl fun A W hR h N hN => ?_
        refine ZV N ?_
        obtain ⟨h232, _⟩ := h
        replace h232 : A.tmps[232]?.getD undef = _ := h232
        have ct := Keeps.of_below hR _ _ ct
        have cs := Keeps.of_below hR _ _ cs
        go_simp
        (try go_bits)
        exact hN _ _ (Below.refl _ _) rfl
      · exact Yz rfl (.inl rfl) fun A W _ h => h.1 _ rfl
      · refine ZA rfl fun A W hR h N hN => ?_
        refine ZV N ?_
        obtain ⟨h15, h234, _⟩ := h
        have h15 := h15 _ rfl
        replace h234 : A.tmps[234]?.getD undef = _ := h234
        go_simp
        (try go_bits)
        exact hN _ _ (Below.refl _ _) rfl
      · refine ZA rfl fun A W hR h N hN => ?_
        refine ZV N ?_
        obtain ⟨h235, _⟩ := h
        replace h235 : A.tmps[235]?.getD undef = _ := h235
        have ct := Keeps.of_below hR _ _ ct
        have cs := Keeps.of_below hR _ _ cs
        go_simp
        (try go_bits)
        exact hN _ _ (Below.refl _ _) rfl
      · refine ZA rfl fun A W hR h N hN => ?_
        refine ZV N ?_
        obtain ⟨h233, h236, _⟩ := h
        replace h233 : A.tmps[233]?.getD undef = _ := h233
        replace h236 : A.tmps[236]?.getD undef = _ := h236
        go_simp
        (try go_bits)
        exact hN _ _ (Below.refl _ _) rfl
      · refine ZA rfl fun A W hR h N hN => ?_
        refine ZV N ?_
        obtain ⟨h4, h231, _⟩ := h
        have h4 := h4 _ rfl
        replace h231 : A.tmps[231]?.getD undef = _ := h231
        go_simp
        (try go_bits)
        exact hN _ _ (Below.refl _ _) rfl
    case v3_fin =>
      intro fa fW fk hR he
      have e6 := he.2.2.2.2.2.2.1
      have e7 := he.2.2.2.2.2.2.2.1
      clear he
      replace e6 : fa.tmps[237]?.getD undef = _ := e6
      replace fk := fk.more 237 _ e6
      clear e6
      replace e7 : fa.tmps[238]?.getD undef = _ := e7
      replace fk := fk.more 238 _ e7
      clear e7
      have h := HS.out.next hR
      have h15 := YG hR H15.out
      have ct := Keeps.of_below hR _ _ ct
      clear HS H15 cs
      have f1 : fW.frozen? ⟨g4, k, none⟩ = false := Z6 h.h4
      have a1 := Lib.hid (Xr xt xs)
      have HS := Lib.hid h
      have H15 := Lib.hid h15
      clear h hR h15
      refine kl_of _ _ ?_ fk
      clear fk fa
      simp only [nrm, lk, Nat.reduceBEq, cond_true, cond_false, List.take_succ_cons, List.take_zero, List.drop_succ_cons, List.drop_zero]
      repeat (first | refine Zv ?_ | refine Zs ?_ | refine Zu ?_ | refine Zc ?_ | refine Zq ?_ | refine Zm ?_ | refine Zp ?_ | refine Zw ?_ | refine Zf ?_ | refine Zd rfl ?_ | refine Zj rfl ?_ | refine Ze ?_ | refine Z3 ?_ | refine Zk ?_ | refine Zg ?_ | refine Zi ?_ | refine Zy rfl ?_ | refine Zx rfl ?_ | refine Zz rfl rfl ?_ | refine Zt rfl rfl rfl rfl ?_ | refine Zr rfl rfl rfl ?_ | (first | refine Zb rfl rfl (.inl rfl) rfl rfl ?_ | refine Zb rfl rfl (.inr rfl) rfl rfl ?_ | refine Za rfl rfl (.inl rfl) rfl ?_ | refine Za rfl rfl (.inr rfl) rfl ?_) | ((first | refine Zn rfl rfl rfl fun K hK => ?_ | refine Zh rfl rfl rfl fun K hK => ?_); go_simp; (try go_bits); (first | refine hK _ _ ?_ | refine hK _ ?_); clear hK K))
      refine Yk (8 - (k + 1)) [2, 3, 4, 5, 8, 9, 15, 20] (by omega) ?_
      simp only [nrm, lk, Nat.reduceBEq, cond_true, cond_false]
      refine ⟨k + 1, by omega, rfl, by congr 1, ?_, ?_⟩
      · rw [a1.out, ← HST.out]
        exact HS.out.set4 ha k _
      · rw [Below.heap_setCell _ _ _ _ (Ne.symm ha15.n4)]; exact H15.out
  · obtain rfl : k = 8 := by omega
    clear h h15
    repeat (first | refine Zv ?_ | refine Zs ?_ | refine Zu ?_ | refine Zc ?_ | refine Zq ?_ | refine Zm ?_ | refine Zp ?_ | refine Zw ?_ | refine Zf ?_ | refine Zd rfl ?_ | refine Zj rfl ?_ | refine Ze ?_ | refine Z3 ?_ | refine Zk ?_ | refine Zg ?_ | refine Zi ?_ | refine Zy rfl ?_ | refine Zx rfl ?_ | refine Zz rfl rfl ?_ | refine Zt rfl rfl rfl rfl ?_ | refine Zr rfl rfl rfl ?_ | (first | refine Zb rfl rfl (.inl rfl) rfl rfl ?_ | refine Zb rfl rfl (.inr rfl) rfl rfl ?_ | refine Za rfl rfl (.inl rfl) rfl ?_ | refine Za rfl rfl (.inr rfl) rfl ?_) | ((first | refine Zn rfl rfl rfl fun K hK => ?_ | refine Zh rfl rfl rfl fun K hK => ?_); go_simp; (try go_bits); (first | refine hK _ _ ?_ | refine hK _ ?_); clear hK K))
    refine KQ.less [2, 3, 4, 5, 8, 9] ?_
    simp only [nrm, lk, Nat.reduceBEq, cond_true, cond_false]
    have h := HS.out
    rw [addW_allR] at h
    exact HQ.out _ h
end Go.Proofs.Ytkncomkncfcecaa
set_option linter.unusedVariables false
set_option linter.unusedSimpArgs false
namespace Go.Proofs.Ytkncomkncfcecaa
open Go.RowKit
attribute [local go_sem] Y1 Yl Yp ZT Yy Yo ZI ZO Yi ZN ZH ZU
set_option maxRecDepth 100000 in
set_option maxHeartbeats 1600000 in
theorem rs_outer {Q : Exit → Act → World → Prop} {w wr : World} {b o q c5 T g2 g3 g4 g8 : Nat} {P : List UInt8} {W : List W32} (ha : Ap w b g2 g3 g4 g8) (hbl : b < wr.heap.size) (hq47 : q ≤ 1099511627776 + 72) (hqc : q ≤ c5) (hc5 : c5 ≤ 9223372036854775807) (HT : Hid (q = 64 * T)) (hW : Hid (W.length = 64))
    (h : Sh w b o q P g2 g3 g4 g8 (blks P 0).words W wr)
    (hQ : ∀ wr', Below w.heap.size w wr' → wr'.heap[g2]? = some (.cells (bv z32).toArray 29 (0, 0)) → wr'.heap[g4]? = some (.cells (wv (blks P T).words).toArray 83 (0, 0)) → KQ Q .normal 278 [(2, .pointer (some ⟨g2, 0, none⟩)), (4, .pointer (some ⟨g4, 0, none⟩))] wr') :
    KW Try.prog (blockOf Try.f18 4) Q 278 [(2, .pointer (some ⟨g2, 0, none⟩)), (3, .pointer (some ⟨g3, 0, none⟩)), (4, .pointer (some ⟨g4, 0, none⟩)), (5, .slice (some ⟨b, o, none⟩) q c5), (8, .pointer (some ⟨g8, 0, none⟩)), (9, .int .i64 0)] wr := by
  conv => arg 2; whnf
  have HQ := Lib.hid hQ
  clear hQ
  refine Zs ?_
  refine Yw (fun m L' wr => ∃ (j p : Nat) (W : List W32), j ≤ T ∧ m = T - j ∧ Hid (p = 64 * j) ∧ p ≤ q ∧ b < wr.heap.size ∧ L' = [(2, .pointer (some ⟨g2, 0, none⟩)), (3, .pointer (some ⟨g3, 0, none⟩)), (4, .pointer (some ⟨g4, 0, none⟩)), (5, .slice (some ⟨b, o, none⟩) q c5), (8, .pointer (some ⟨g8, 0, none⟩)), (9, .int .i64 (p : Int))] ∧ Hid (W.length = 64) ∧ Sh w b o q P g2 g3 g4 g8 (blks P j).words W wr) ⟨0, 0, W, by omega, rfl, rfl, by omega, hbl, rfl, hW, h⟩ ?_
  clear h wr hbl hW W
  rintro m L' wr ⟨j, p, W, hjT, rfl, hp, hpq, hbl, rfl, hW, h⟩
  have HS := Lib.hid h
  clear h
  have hp64 := hp.out
  have hT64 := HT.out
  by_cases hlt : p < q
  · have hlt' : (p : Int) < q := by omega
    have hpq64 : p + 64 ≤ q := by omega
    have hjT1 : j + 1 ≤ T := by omega
    obtain ⟨B, hBp⟩ : ∃ B, (P.drop (64 * j)).take 64 = B := ⟨_, rfl⟩
    have HB := Lib.hid hBp
    clear hp64 hT64 hBp
    repeat (first | refine Zv ?_ | refine Zu ?_ | refine Zc ?_ | refine Zq ?_ | refine Zm ?_ | refine Zp ?_ | refine Zw ?_ | refine Zf ?_ | refine Zd rfl ?_ | refine Zj rfl ?_ | refine Ze ?_ | refine Z3 ?_ | refine Zk ?_ | refine Zg ?_ | refine Zi ?_ | refine Zy rfl ?_ | refine Zx rfl ?_ | refine Zz rfl rfl ?_ | refine Zt rfl rfl rfl rfl ?_ | refine Zr rfl rfl rfl ?_ | (first | refine Zb rfl rfl (.inl rfl) rfl rfl ?_ | refine Zb rfl rfl (.inr rfl) rfl rfl ?_ | refine Za rfl rfl (.inl rfl) rfl ?_ | refine Za rfl rfl (.inr rfl) rfl ?_) | ((first | refine Zn rfl rfl rfl fun K hK => ?_ | refine Zh rfl rfl rfl fun K hK => ?_); go_simp; (try go_bits); (first | refine hK _ _ ?_ | refine hK _ ?_); clear hK K))
    refine Zs ?_
    repeat (first | refine Zv ?_ | refine Zu ?_ | refine Zc ?_ | refine Zq ?_ | refine Zm ?_ | refine Zp ?_ | refine Zw ?_ | refine Zf ?_ | refine Zd rfl ?_ | refine Zj rfl ?_ | refine Ze ?_ | refine Z3 ?_ | refine Zk ?_ | refine Zg ?_ | refine Zi ?_ | refine Zy rfl ?_ | refine Zx rfl ?_ | refine Zz rfl rfl ?_ | refine Zt rfl rfl rfl rfl ?_ | refine Zr rfl rfl rfl ?_ | (first | refine Zb rfl rfl (.inl rfl) rfl rfl ?_ | refine Zb rfl rfl (.inr rfl) rfl rfl ?_ | refine Za rfl rfl (.inl rfl) rfl ?_ | refine Za rfl rfl (.inr rfl) rfl ?_) | ((first | refine Zn rfl rfl rfl fun K hK => ?_ | refine Zh rfl rfl rfl fun K hK => ?_); go_simp; (try go_bits); (first | refine hK _ _ ?_ | refine hK _ ?_); clear hK K))
    refine KW.less [2, 3, 4, 5, 8, 9, 10] ?_
    simp only [nrm, lk, Nat.reduceBEq, cond_true, cond_false]
    refine rs_loop4 ha hq47 hqc hc5 hpq64 hp HB hW HS.out fun wr4 h4 => ?_
    repeat (first | refine Zv ?_ | refine Zu ?_ | refine Zc ?_ | refine Zq ?_ | refine Zm ?_ | refine Zp ?_ | refine Zw ?_ | refine Zf ?_ | refine Zd rfl ?_ | refine Zj rfl ?_ | refine Ze ?_ | refine Z3 ?_ | refine Zk ?_ | refine Zg ?_ | refine Zi ?_ | refine Zy rfl ?_ | refine Zx rfl ?_ | refine Zz rfl rfl ?_ | refine Zt rfl rfl rfl rfl ?_ | refine Zr rfl rfl rfl ?_ | (first | refine Zb rfl rfl (.inl rfl) rfl rfl ?_ | refine Zb rfl rfl (.inr rfl) rfl rfl ?_ | refine Za rfl rfl (.inl rfl) rfl ?_ | refine Za rfl rfl (.inr rfl) rfl ?_) | ((first | refine Zn rfl rfl rfl fun K hK => ?_ | refine Zh rfl rfl rfl fun K hK => ?_); go_simp; (try go_bits); (first | refine hK _ _ ?_ | refine hK _ ?_); clear hK K))
    refine KW.less [2, 3, 4, 5, 8, 9, 12] ?_
    simp only [nrm, lk, Nat.reduceBEq, cond_true, cond_false]
    refine rs_loop5 ha hW h4 fun wr5 h5 => ?_
    clear HS h4
    have HS := Lib.hid h5
    have H4 := Lib.hid h5.h4
    clear h5
    refine Zm ?_
    refine Zv ?_
    refine Zc ?_
    refine X2 83 g4 _ _ _ _ H4.out st8Under rfl (infoR _ rfl) rfl rfl rfl rfl rfl ?_
    refine YH 83 st8Zero rfl rfl rfl rfl ?_
    refine YR 83 wr5.heap.size (wv (blks P j).words).toArray 83 (wv z8).toArray (heap_alloc_new _ _) (infoR _ rfl) (size8 _ _ z8_len rfl) (X6 _) rfl rfl rfl rfl rfl ?_
    obtain ⟨w9, hw9⟩ : ∃ w9, w9 = (wr5.alloc (.cells (wv z8).toArray 83)).setRow wr5.heap.size (wv (blks P j).words).toArray := ⟨_, rfl⟩
    have hb9 : Below wr5.heap.size wr5 w9 := by rw [hw9]; exact ZY ((Below.refl _ _).alloc (Nat.le_refl _) _) (Nat.le_refl _) _
    have h15 : w9.heap[wr5.heap.size]? = some (.cells (wv (blks P j).words).toArray 83 (0, 0)) := by rw [hw9]; exact ZQ (heap_alloc_new _ _)
    rw [← hw9]
    clear hw9
    have hS := HS.out
    have m2 := YM hS.h2
    have m3 := YM hS.h3
    have m4 := YM hS.h4
    have m8 := YM hS.h8
    have mb : b < wr5.heap.size := bs_lt hS.B (by omega)
    have hsz := hS.below.size
    obtain ⟨g15, hg15⟩ : ∃ g, wr5.heap.size = g := ⟨_, rfl⟩
    rw [hg15] at h15 m2 m3 m4 m8 mb hsz ⊢
    have ha15 : A15 w b g2 g3 g4 g8 g15 := ⟨by omega, by omega, by omega, by omega, by omega, hsz⟩
    have hS9 := hS.next hb9
    clear m2 m3 m4 m8 mb hsz hg15 hb9 H4 HS hS
    have HS := Lib.hid hS9
    have H15 := Lib.hid h15
    clear hS9 h15
    repeat (first | refine Zv ?_ | refine Zu ?_ | refine Zc ?_ | refine Zq ?_ | refine Zm ?_ | refine Zp ?_ | refine Zw ?_ | refine Zf ?_ | refine Zd rfl ?_ | refine Zj rfl ?_ | refine Ze ?_ | refine Z3 ?_ | refine Zk ?_ | refine Zg ?_ | refine Zi ?_ | refine Zy rfl ?_ | refine Zx rfl ?_ | refine Zz rfl rfl ?_ | refine Zt rfl rfl rfl rfl ?_ | refine Zr rfl rfl rfl ?_ | (first | refine Zb rfl rfl (.inl rfl) rfl rfl ?_ | refine Zb rfl rfl (.inr rfl) rfl rfl ?_ | refine Za rfl rfl (.inl rfl) rfl ?_ | refine Za rfl rfl (.inr rfl) rfl ?_) | ((first | refine Zn rfl rfl rfl fun K hK => ?_ | refine Zh rfl rfl rfl fun K hK => ?_); go_simp; (try go_bits); (first | refine hK _ _ ?_ | refine hK _ ?_); clear hK K))
    refine KW.less [2, 3, 4, 5, 8, 9, 15, 16] ?_
    simp only [nrm, lk, Nat.reduceBEq, cond_true, cond_false]
    refine rs_loop6 (B := B) (s0 := blks P j) ha ha15 rfl (YJ B 64) HS.out H15.out fun wr6 h6 h15 => ?_
    clear HS H15
    have HS := Lib.hid h6
    have H15 := Lib.hid h15
    clear h6 h15
    repeat (first | refine Zv ?_ | refine Zu ?_ | refine Zc ?_ | refine Zq ?_ | refine Zm ?_ | refine Zp ?_ | refine Zw ?_ | refine Zf ?_ | refine Zd rfl ?_ | refine Zj rfl ?_ | refine Ze ?_ | refine Z3 ?_ | refine Zk ?_ | refine Zg ?_ | refine Zi ?_ | refine Zy rfl ?_ | refine Zx rfl ?_ | refine Zz rfl rfl ?_ | refine Zt rfl rfl rfl rfl ?_ | refine Zr rfl rfl rfl ?_ | (first | refine Zb rfl rfl (.inl rfl) rfl rfl ?_ | refine Zb rfl rfl (.inr rfl) rfl rfl ?_ | refine Za rfl rfl (.inl rfl) rfl ?_ | refine Za rfl rfl (.inr rfl) rfl ?_) | ((first | refine Zn rfl rfl rfl fun K hK => ?_ | refine Zh rfl rfl rfl fun K hK => ?_); go_simp; (try go_bits); (first | refine hK _ _ ?_ | refine hK _ ?_); clear hK K))
    refine KW.less [2, 3, 4, 5, 8, 9, 15, 20] ?_
    simp only [nrm, lk, Nat.reduceBEq, cond_true, cond_false]
    refine rs_loop7 ha ha15 HS.out H15.out fun wr7 h7 => ?_
    have hF : addSt (blks P j) (rounds B (blks P j) 64) = blks P (j + 1) := by
      rw [← blks_next, HB.out]
      rfl
    rw [hF] at h7
    clear hF HS H15
    have HS := Lib.hid h7
    clear h7
    have ep : IntKind.i64.wrap ((p : Int) + 64) = p + 64 := IntWalk.i64_in _ (by omega)
    repeat (first | refine Zv ?_ | refine Zu ?_ | refine Zc ?_ | refine Zq ?_ | refine Zm ?_ | refine Zp ?_ | refine Zw ?_ | refine Zf ?_ | refine Zd rfl ?_ | refine Zj rfl ?_ | refine Ze ?_ | refine Z3 ?_ | refine Zk ?_ | refine Zg ?_ | refine Zi ?_ | refine Zy rfl ?_ | refine Zx rfl ?_ | refine Zz rfl rfl ?_ | refine Zt rfl rfl rfl rfl ?_ | refine Zr rfl rfl rfl ?_ | (first | refine Zb rfl rfl (.inl rfl) rfl rfl ?_ | refine Zb rfl rfl (.inr rfl) rfl rfl ?_ | refine Za rfl rfl (.inl rfl) rfl ?_ | refine Za rfl rfl (.inr rfl) rfl ?_) | ((first | refine Zn rfl rfl rfl fun K hK => ?_ | refine Zh rfl rfl rfl fun K hK => ?_); go_simp; (try go_bits); (first | refine hK _ _ ?_ | refine hK _ ?_); clear hK K))
    refine Yk (T - (j + 1)) [2, 3, 4, 5, 8, 9] (by omega) ?_
    simp only [nrm, lk, Nat.reduceBEq, cond_true, cond_false]
    refine ⟨j + 1, p + 64, wl B 64, hjT1, rfl, by have := hp.out; show p + 64 = 64 * (j + 1); omega, hpq64, bs_lt HS.out.B (by omega), by congr 1, YJ B 64, HS.out⟩
  · obtain rfl : p = q := by omega
    obtain rfl : j = T := by omega
    clear hp64 hT64
    repeat (first | refine Zv ?_ | refine Zu ?_ | refine Zc ?_ | refine Zq ?_ | refine Zm ?_ | refine Zp ?_ | refine Zw ?_ | refine Zf ?_ | refine Zd rfl ?_ | refine Zj rfl ?_ | refine Ze ?_ | refine Z3 ?_ | refine Zk ?_ | refine Zg ?_ | refine Zi ?_ | refine Zy rfl ?_ | refine Zx rfl ?_ | refine Zz rfl rfl ?_ | refine Zt rfl rfl rfl rfl ?_ | refine Zr rfl rfl rfl ?_ | (first | refine Zb rfl rfl (.inl rfl) rfl rfl ?_ | refine Zb rfl rfl (.inr rfl) rfl rfl ?_ | refine Za rfl rfl (.inl rfl) rfl ?_ | refine Za rfl rfl (.inr rfl) rfl ?_) | ((first | refine Zn rfl rfl rfl fun K hK => ?_ | refine Zh rfl rfl rfl fun K hK => ?_); go_simp; (try go_bits); (first | refine hK _ _ ?_ | refine hK _ ?_); clear hK K))
    refine KQ.less [2, 4] ?_
    simp only [nrm, lk, Nat.reduceBEq, cond_true, cond_false]
    have h := HS.out
    exact HQ.out _ h.below h.h2 h.h4
end Go.Proofs.Ytkncomkncfcecaa
