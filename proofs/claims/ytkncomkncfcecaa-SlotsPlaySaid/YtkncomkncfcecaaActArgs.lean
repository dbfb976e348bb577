/- Same: two memories, the code's and the document's, that are alike are told so. A row of acts as memory; Few. An argument '[]Act', opened; no program in sight but for the struct's fields. -/
import Derived.Test.YtkncomkncfcecaaRefProg
import Derived.Test.YtkncomkncfcecaaFlashMem
import Derived.Deep.Slices
set_option linter.unusedVariables false
set_option linter.unusedSimpArgs false
namespace Go.Proofs.Ytkncomkncfcecaa
open Go.RowKit
set_option maxRecDepth 100000 in
set_option maxHeartbeats 4000000 in
theorem same_any (Q Q2 : Nat → Prop) (g g2 : Nat) (f : FlashSt) (w : World) (h : FS Q w g f) (h2 : RF Q2 w g2 f) :
    Calls Try.prog 31 #[.pointer (some ⟨g, 0, none⟩), .pointer (some ⟨g2, 0, none⟩)] w fun e w' => e = .returned (.bool true) ∧ Below w.heap.size w w' := by
  go_enter Try.func31, Try.ntmps31
  go_wp2_with fail
  go_loopw [5] (fun sv wr => ∃ (s : Int), -1 ≤ s ∧ s ≤ 7 ∧ sv = .int .i64 s ∧ Below w.heap.size w wr) (fun sv _ => (7 - intOf sv).toNat)
  case atStart => exact ⟨-1, by omega, by omega, rfl, Below.refl _ _⟩
  case round =>
    obtain ⟨s, hs0, hs7, rfl, hbr⟩ := hrel
    by_cases hlt : s < 7
    · have hf := h.below hbr
      have hx := h2.below hbr
      obtain ⟨R, hRR⟩ : ∃ R, readF f s = R := ⟨_, rfl⟩
      have HRR := Lib.hid hRR
      clear hRR
      go_upto_region 4 with fail
      refine Ys [Is (.pointer (some ⟨g, 0, none⟩)), Is (.int .i64 s), BsIs R.length R, Is (.string ⟨R.toArray⟩), Is (.pointer (some ⟨g2, 0, none⟩)), Is (.int .i64 s), BsIs R.length R, Is (.string ⟨R.toArray⟩), Is (.bool false)]
        [[(0, none)], [(5, none)], [(10, some 0), (11, some 1)], [(12, some 2)], [(1, none)], [(5, none)], [(14, some 4), (15, some 5)], [(16, some 6)], [(13, some 3), (17, some 7)]]
        (by kernel_rfl) (by kernel_rfl) (by kernel_rfl)
        ⟨Zo _, Zo _, mono_bsIs _ _, Zo _, Zo _, Zo _, mono_bsIs _ _, Zo _, Zo _, trivial⟩ ?vc ?fin
      case vc =>
        refine ⟨?_, ?_, ?_, ?_, ?_, ?_, ?_, ?_, ?_, trivial⟩
        · exact Zl rfl (ZF (.inl rfl) fun A W _ h => h.1)
        · exact Zl rfl (ZF (.inl rfl) fun A W _ h => h.1)
        · refine Zl rfl (XB rfl Try.func16 rfl (by kernel_rfl) fun A' W hR h => ?_)
          obtain ⟨h10, h11, _⟩ := h
          replace h10 : A'.tmps[10]?.getD undef = _ := h10
          replace h11 : A'.tmps[11]?.getD undef = _ := h11
          show Calls _ _ #[A'.tmps[10]?.getD undef, A'.tmps[11]?.getD undef] _ _
          rw [h10, h11]
          refine Calls.mono (read_any _ _ f s _ (hf.below hR)) ?_
          rw [HRR.out]
          rintro r W' ⟨A1, n1, c1, rfl, b1, r1, r2, hb⟩
          obtain rfl : n1 = R.length := b1.len.symm
          exact ⟨_, rfl, hb, _, _, rfl, b1, r1, by omega⟩
        · refine Zl rfl (Z7 fun A' W hR h => ?_)
          obtain ⟨h12, _⟩ := h
          obtain ⟨B, c', e1, hB, _⟩ := h12
          replace e1 : A'.tmps[12]?.getD undef = _ := e1
          have k1 := convB (c := c') hB
          refine ⟨_, W, ?_, Below.refl _ _, rfl⟩
          go_simp
        · exact Zl rfl (ZF (.inl rfl) fun A W _ h => h.1)
        · exact Zl rfl (ZF (.inl rfl) fun A W _ h => h.1)
        · refine Zl rfl (XB rfl Try.func49 rfl (by kernel_rfl) fun A' W hR h => ?_)
          obtain ⟨h14, h15, _⟩ := h
          replace h14 : A'.tmps[14]?.getD undef = _ := h14
          replace h15 : A'.tmps[15]?.getD undef = _ := h15
          show Calls _ _ #[A'.tmps[14]?.getD undef, A'.tmps[15]?.getD undef] _ _
          rw [h14, h15]
          refine Calls.mono (refRead_any _ _ f s _ (hx.below hR)) ?_
          rw [HRR.out]
          rintro r W' ⟨A1, n1, c1, rfl, b1, r1, r2, hb⟩
          obtain rfl : n1 = R.length := b1.len.symm
          exact ⟨_, rfl, hb, _, _, rfl, b1, r1, by omega⟩
        · refine Zl rfl (Z7 fun A' W hR h => ?_)
          obtain ⟨h16, _⟩ := h
          obtain ⟨B, c', e1, hB, _⟩ := h16
          replace e1 : A'.tmps[16]?.getD undef = _ := e1
          have k1 := convB (c := c') hB
          refine ⟨_, W, ?_, Below.refl _ _, rfl⟩
          go_simp
        · refine Zl rfl (Z7 fun A' W hR h => ?_)
          obtain ⟨h13, h17, _⟩ := h
          replace h13 : A'.tmps[13]?.getD undef = _ := h13
          replace h17 : A'.tmps[17]?.getD undef = _ := h17
          refine ⟨_, W, ?_, Below.refl _ _, rfl⟩
          go_simp
      case fin =>
        intro A' W hd hs hR he hr
        obtain ⟨e0, e1, e2, e3, e4, e5, e6, e7, e8, _⟩ := he
        have hA' := Yn [10, 11, 12, 13, 14, 15, 16, 17, 18] rfl hd hs hr
        clear hd hs hr
        obtain ⟨B2, c2, e2, _⟩ := e2
        replace e2 : A'.tmps[12]?.getD undef = _ := e2
        obtain ⟨B6, c6, e6, _⟩ := e6
        replace e6 : A'.tmps[16]?.getD undef = _ := e6
        replace e0 : A'.tmps[10]?.getD undef = _ := e0
        replace e1 : A'.tmps[11]?.getD undef = _ := e1
        replace e3 : A'.tmps[13]?.getD undef = _ := e3
        replace e4 : A'.tmps[14]?.getD undef = _ := e4
        replace e5 : A'.tmps[15]?.getD undef = _ := e5
        replace e7 : A'.tmps[17]?.getD undef = _ := e7
        replace e8 : A'.tmps[18]?.getD undef = _ := e8
        simp only [frameAfter, List.contains_cons, List.contains_nil, Nat.reduceBEq, Bool.or_false, Bool.or_true, Bool.or_self, Bool.false_or, Bool.true_or, Bool.false_eq_true, if_true, if_false, Nat.reduceAdd, e0, e1, e2, e3, e4, e5, e6, e7, e8] at hA'
        subst hA'
        clear e0 e1 e2 e3 e4 e5 e6 e7 e8
        go_wp2_with fail
        go_roundw
        case rel => exact ⟨s + 1, by omega, by omega, rfl, Z1 hbr hR hbr.size⟩
        case measure => simp [intOf]; omega
    · obtain rfl : s = 7 := by omega
      have hfr := h.below hbr
      obtain ⟨A0, n0, c0, hg, hS, _⟩ := h2.below hbr
      have xd := YQ hg hS
      have xo := rf_done hg hS
      clear hg
      go_upto_region 6 with fail
      refine Ys [Is (.pointer (some ⟨g, 0, none⟩)), Is (.pointer (some ⟨g, 0, none⟩)), Is (.pointer (some ⟨g, 0, none⟩)), Is (.bool f.dead), Is (.pointer (some ⟨g2, 0, none⟩)), Is (.pointer (some ⟨g2, 0, none⟩)), Is (.pointer (some ⟨g2, 6147, none⟩)), Is (.bool f.dead), Is (.bool true), Is (.bool true), Is (.pointer (some ⟨g, 0, none⟩)), Is (.pointer (some ⟨g, 0, none⟩)), Is (.pointer (some ⟨g, 0, none⟩)), Is (.int .i64 f.done), Is (.pointer (some ⟨g2, 0, none⟩)), Is (.pointer (some ⟨g2, 0, none⟩)), Is (.pointer (some ⟨g2, 6144, none⟩)), Is (.int .i64 f.done), Is (.bool true), Is (.bool true), Is (.bool true)]
        [[(0, none)], [(19, some 0)], [(20, some 1)], [(21, some 2)], [(1, none)], [(23, some 4)], [(24, some 5)], [(25, some 6)], [(22, some 3), (26, some 7)], [(27, some 8)], [(28, some 9), (0, none)], [(28, some 9), (29, some 10)], [(28, some 9), (30, some 11)], [(28, some 9), (31, some 12)], [(28, some 9), (1, none)], [(28, some 9), (33, some 14)], [(28, some 9), (34, some 15)], [(28, some 9), (35, some 16)], [(28, some 9), (32, some 13), (36, some 17)], [(28, some 9), (37, some 18)], [(38, some 19)]]
        (by kernel_rfl) (by kernel_rfl) (by kernel_rfl)
        ⟨Zo _, Zo _, Zo _, Zo _, Zo _, Zo _, Zo _, Zo _, Zo _, Zo _, Zo _, Zo _, Zo _, Zo _, Zo _, Zo _, Zo _, Zo _, Zo _, Zo _, Zo _, trivial⟩ ?vc ?fin
      case vc =>
        refine ⟨?_, ?_, ?_, ?_, ?_, ?_, ?_, ?_, ?_, ?_, ?_, ?_, ?_, ?_, ?_, ?_, ?_, ?_, ?_, ?_, ?_, trivial⟩
        · exact Zl rfl (ZF (.inl rfl) fun A W _ h => h.1)
        · refine Zl rfl (Z7 fun A' W hR h => ?_)
          obtain ⟨h19, _⟩ := h
          replace h19 : A'.tmps[19]?.getD undef = _ := h19
          refine ⟨_, W, ?_, Below.refl _ _, rfl⟩
          go_simp
        · refine Zl rfl (Z7 fun A' W hR h => ?_)
          obtain ⟨h20, _⟩ := h
          replace h20 : A'.tmps[20]?.getD undef = _ := h20
          refine ⟨_, W, ?_, Below.refl _ _, rfl⟩
          go_simp
        · refine Zl rfl (XB rfl Try.func50 rfl (by kernel_rfl) fun A' W hR h => ?_)
          obtain ⟨h21, _⟩ := h
          replace h21 : A'.tmps[21]?.getD undef = _ := h21
          show Calls _ _ #[A'.tmps[21]?.getD undef] _ _
          rw [h21]
          refine Calls.mono (dead_any _ g f _ (hfr.below hR)) ?_
          rintro r W' ⟨rfl, rfl⟩
          exact ⟨_, rfl, Below.refl _ _, rfl⟩
        · exact Zl rfl (ZF (.inl rfl) fun A W _ h => h.1)
        · refine Zl rfl (Z7 fun A' W hR h => ?_)
          obtain ⟨h23, _⟩ := h
          replace h23 : A'.tmps[23]?.getD undef = _ := h23
          refine ⟨_, W, ?_, Below.refl _ _, rfl⟩
          go_simp
        · refine Zl rfl (Z7 fun A' W hR h => ?_)
          obtain ⟨h24, _⟩ := h
          replace h24 : A'.tmps[24]?.getD undef = _ := h24
          refine ⟨_, W, ?_, Below.refl _ _, rfl⟩
          go_simp
        · refine Zl rfl (Z7 fun A' W hR h => ?_)
          obtain ⟨h25, _⟩ := h
          replace h25 : A'.tmps[25]?.getD undef = _ := h25
          have hc := Keeps.of_below hR _ _ xd
          refine ⟨_, W, ?_, Below.refl _ _, rfl⟩
          go_simp
        · refine Zl rfl (Z7 fun A' W hR h => ?_)
          obtain ⟨h22, h26, _⟩ := h
          replace h22 : A'.tmps[22]?.getD undef = _ := h22
          replace h26 : A'.tmps[26]?.getD undef = _ := h26
          refine ⟨_, W, ?_, Below.refl _ _, rfl⟩
          go_simp
        · exact Zl rfl (ZF (.inl rfl) fun A W _ h => h.1)
        · exact vf_yes rfl rfl (fun A W _ h => h.1) (ZF (.inl rfl) fun A W _ h => h.2.1)
        · refine vf_yes rfl rfl (fun A W _ h => h.1) (Z7 fun A' W hR h => ?_)
          obtain ⟨h28, h29, _⟩ := h
          replace h28 : A'.tmps[28]?.getD undef = _ := h28
          replace h29 : A'.tmps[29]?.getD undef = _ := h29
          refine ⟨_, W, ?_, Below.refl _ _, rfl⟩
          go_simp
        · refine vf_yes rfl rfl (fun A W _ h => h.1) (Z7 fun A' W hR h => ?_)
          obtain ⟨h28, h30, _⟩ := h
          replace h28 : A'.tmps[28]?.getD undef = _ := h28
          replace h30 : A'.tmps[30]?.getD undef = _ := h30
          refine ⟨_, W, ?_, Below.refl _ _, rfl⟩
          go_simp
        · refine vf_yes rfl rfl (fun A W _ h => h.1) (XB rfl Try.func19 rfl (by kernel_rfl) fun A' W hR h => ?_)
          obtain ⟨h28, h31, _⟩ := h
          replace h28 : A'.tmps[28]?.getD undef = _ := h28
          replace h31 : A'.tmps[31]?.getD undef = _ := h31
          show Calls _ _ #[A'.tmps[31]?.getD undef] _ _
          rw [h31]
          refine Calls.mono (ops_any _ g f _ (hfr.below hR)) ?_
          rintro r W' ⟨rfl, rfl⟩
          exact ⟨_, rfl, Below.refl _ _, rfl⟩
        · exact vf_yes rfl rfl (fun A W _ h => h.1) (ZF (.inl rfl) fun A W _ h => h.2.1)
        · refine vf_yes rfl rfl (fun A W _ h => h.1) (Z7 fun A' W hR h => ?_)
          obtain ⟨h28, h33, _⟩ := h
          replace h28 : A'.tmps[28]?.getD undef = _ := h28
          replace h33 : A'.tmps[33]?.getD undef = _ := h33
          refine ⟨_, W, ?_, Below.refl _ _, rfl⟩
          go_simp
        · refine vf_yes rfl rfl (fun A W _ h => h.1) (Z7 fun A' W hR h => ?_)
          obtain ⟨h28, h34, _⟩ := h
          replace h28 : A'.tmps[28]?.getD undef = _ := h28
          replace h34 : A'.tmps[34]?.getD undef = _ := h34
          refine ⟨_, W, ?_, Below.refl _ _, rfl⟩
          go_simp
        · refine vf_yes rfl rfl (fun A W _ h => h.1) (Z7 fun A' W hR h => ?_)
          obtain ⟨h28, h35, _⟩ := h
          replace h28 : A'.tmps[28]?.getD undef = _ := h28
          replace h35 : A'.tmps[35]?.getD undef = _ := h35
          have hc := Keeps.of_below hR _ _ xo
          refine ⟨_, W, ?_, Below.refl _ _, rfl⟩
          go_simp
        · refine vf_yes rfl rfl (fun A W _ h => h.1) (Z7 fun A' W hR h => ?_)
          obtain ⟨h28, h32, h36, _⟩ := h
          replace h28 : A'.tmps[28]?.getD undef = _ := h28
          replace h32 : A'.tmps[32]?.getD undef = _ := h32
          replace h36 : A'.tmps[36]?.getD undef = _ := h36
          refine ⟨_, W, ?_, Below.refl _ _, rfl⟩
          go_simp
        · refine Zl rfl (Z7 fun A' W hR h => ?_)
          obtain ⟨h28, h37, _⟩ := h
          replace h28 : A'.tmps[28]?.getD undef = _ := h28
          replace h37 : A'.tmps[37]?.getD undef = _ := h37
          refine ⟨_, W, ?_, Below.refl _ _, rfl⟩
          go_simp
        · exact Zl rfl (ZF (.inr rfl) fun A W _ h => h.1)
      case fin =>
        intro A' W hd hs hR he hr
        obtain ⟨e0, e1, e2, e3, e4, e5, e6, e7, e8, e9, e10, e11, e12, e13, e14, e15, e16, e17, e18, e19, e20, _⟩ := he
        have hA' := Yn [19, 20, 21, 22, 23, 24, 25, 26, 27, 28, 29, 30, 31, 32, 33, 34, 35, 36, 37, 38, 4] rfl hd hs hr
        clear hd hs hr
        replace e0 : A'.tmps[19]?.getD undef = _ := e0
        replace e1 : A'.tmps[20]?.getD undef = _ := e1
        replace e2 : A'.tmps[21]?.getD undef = _ := e2
        replace e3 : A'.tmps[22]?.getD undef = _ := e3
        replace e4 : A'.tmps[23]?.getD undef = _ := e4
        replace e5 : A'.tmps[24]?.getD undef = _ := e5
        replace e6 : A'.tmps[25]?.getD undef = _ := e6
        replace e7 : A'.tmps[26]?.getD undef = _ := e7
        replace e8 : A'.tmps[27]?.getD undef = _ := e8
        replace e9 : A'.tmps[28]?.getD undef = _ := e9
        replace e10 : A'.tmps[29]?.getD undef = _ := e10
        replace e11 : A'.tmps[30]?.getD undef = _ := e11
        replace e12 : A'.tmps[31]?.getD undef = _ := e12
        replace e13 : A'.tmps[32]?.getD undef = _ := e13
        replace e14 : A'.tmps[33]?.getD undef = _ := e14
        replace e15 : A'.tmps[34]?.getD undef = _ := e15
        replace e16 : A'.tmps[35]?.getD undef = _ := e16
        replace e17 : A'.tmps[36]?.getD undef = _ := e17
        replace e18 : A'.tmps[37]?.getD undef = _ := e18
        replace e19 : A'.tmps[38]?.getD undef = _ := e19
        replace e20 : A'.tmps[4]?.getD undef = _ := e20
        simp only [frameAfter, List.contains_cons, List.contains_nil, Nat.reduceBEq, Bool.or_false, Bool.or_true, Bool.or_self, Bool.false_or, Bool.true_or, Bool.false_eq_true, if_true, if_false, Nat.reduceAdd, e0, e1, e2, e3, e4, e5, e6, e7, e8, e9, e10, e11, e12, e13, e14, e15, e16, e17, e18, e19, e20] at hA'
        subst hA'
        clear e0 e1 e2 e3 e4 e5 e6 e7 e8 e9 e10 e11 e12 e13 e14 e15 e16 e17 e18 e19 e20
        go_wp2_with fail
        go_ret
        exact ⟨rfl, Z1 hbr hR hbr.size⟩
end Go.Proofs.Ytkncomkncfcecaa
set_option linter.unusedVariables false
set_option linter.unusedSimpArgs false
namespace Go.Proofs.Ytkncomkncfcecaa
open Go.RowKit
structure ActV where
  kind : Int
  s : Int
  p : Int
  n : Int
  b : List UInt8
def ActAt (w : World) (g o : Nat) (a : ActV) : Prop :=
  w.cell? ⟨g, o, none⟩ = some (.int .i64 a.kind) ∧ w.cell? ⟨g, o + 1, none⟩ = some (.int .i64 a.s) ∧ w.cell? ⟨g, o + 2, none⟩ = some (.int .i64 a.p) ∧ w.cell? ⟨g, o + 3, none⟩ = some (.int .i64 a.n) ∧
    ∃ B m c, w.cell? ⟨g, o + 4, none⟩ = some (.slice B m c) ∧ Bs w B m a.b ∧ m ≤ c ∧ c ≤ 9223372036854775807
def Acts (w : World) (A : Option Addr) (n : Nat) (l : List ActV) : Prop :=
  l.length = n ∧ (0 < n → ∃ g o, A = some ⟨g, o, none⟩ ∧ ∀ i a, l[i]? = some a → ActAt w g (o + i * 5) a)
theorem ActAt.keep {w w' : World} {g o : Nat} {a : ActV} (h : ActAt w g o a) (hk : Keeps w w') : ActAt w' g o a := by
  obtain ⟨h1, h2, h3, h4, B, m, c, h5, h6, h7⟩ := h
  exact ⟨hk _ _ h1, hk _ _ h2, hk _ _ h3, hk _ _ h4, B, m, c, hk _ _ h5, h6.keep hk, h7⟩
theorem Acts.keep {w w' : World} {A : Option Addr} {n : Nat} {l : List ActV} (h : Acts w A n l) (hk : Keeps w w') : Acts w' A n l :=
  ⟨h.1, fun hn => by
    obtain ⟨g, o, e, hc⟩ := h.2 hn
    exact ⟨g, o, e, fun i a ha => (hc i a ha).keep hk⟩⟩
theorem Acts.next {w : World} {A : Option Addr} {n k : Nat} {l : List ActV} (h : Acts w A n l) (hk : k < n) :
    ∃ g o a, A = some ⟨g, o, none⟩ ∧ ActAt w g (o + k * 5) a ∧ Hid (l.take (k + 1) = l.take k ++ [a]) ∧ Hid (l[k]? = some a) := by
  obtain ⟨g, o, e, hc⟩ := h.2 (by omega)
  have hl : k < l.length := by rw [h.1]; exact hk
  exact ⟨g, o, l[k], e, hc k _ (List.getElem?_eq_getElem hl), Xy hl, List.getElem?_eq_getElem hl⟩
def fewA (l : List ActV) : Bool := l.all fun a => decide (a.b.length ≤ 40)
end Go.Proofs.Ytkncomkncfcecaa
set_option linter.unusedVariables false
set_option linter.unusedSimpArgs false
namespace Go.Proofs.Ytkncomkncfcecaa
open Go.ChangeShapes Go.WideShapes Go.ChangeAt Go.RowKit Go.Deep
section
variable {H : Type} {enc : TypeId × Value → H} {P : Program} {W : World}
theorem WS {t e : TypeId} {v : Value} {y : DataW H × List MemPlace} {n : Nat} {h63 : Bool} (ht : P.underlying t = some (.slice e)) (he : P.underlying e = some (.int .u8)) (hc : P.cellsOf e = 1)
    (hf : DataW.trod enc P W 0 (fun _ => true) h63 n t [v] = some y) : ∃ B m c l, v = .slice B m c ∧ Bs W B m l ∧ m ≤ c ∧ c ≤ 9223372036854775807 := by
  rcases open_ints ht he hc hf with ⟨hcs, _⟩ | ⟨x, l, c', zs, hcs, _, hl, hm, hz, hx, hcell, hwz⟩
  · simp at hcs
    exact ⟨none, 0, 0, [], hcs, Bs.nil _ _, Nat.le_refl _, by omega⟩
  · simp at hcs
    simp only [if_true] at hz
    refine ⟨some x, l, c', toBytes (zs.take l), hcs, ⟨by simp [bv, toBytes]; omega, fun hn => ?_⟩, hl, by simpa [maxLen] using hm⟩
    have hspot : x.spot = none := World.cell?_spot (by simpa [Addr.add] using hcell 0 (by omega))
    obtain ⟨xb, xo, xs⟩ := x
    dsimp only at hspot
    subst hspot
    refine ⟨xb, xo, rfl, fun i u hu => ?_⟩
    simp only [bv, toBytes, List.getElem?_map, Option.map_map, Option.map_eq_some_iff] at hu
    obtain ⟨z, hz', rfl⟩ := hu
    have hi : i < l ∧ zs[i]? = some z := by
      rw [List.getElem?_take] at hz'
      split at hz'
      · exact ⟨by assumption, hz'⟩
      · cases hz'
    have := hcell i (by omega)
    rw [Addr.add_lit] at this
    rw [this, List.getD_eq_getElem?_getD, hi.2]
    simp only [Option.getD_some, Function.comp_apply]
    rw [u8_back (hwz z (List.mem_of_getElem? hi.2))]
end
end Go.Proofs.Ytkncomkncfcecaa
