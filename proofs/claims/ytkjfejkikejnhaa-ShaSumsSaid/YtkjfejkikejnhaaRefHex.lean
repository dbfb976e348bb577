/- The document's digits. -/
import Derived.Test.YtkjfejkikejnhaaShaDig
namespace Go.Proofs.Ytkjfejkikejnhaa
open Go.RowKit

theorem str_snoc (T : List UInt8) (x : UInt8) : ((⟨T.toArray⟩ : ByteArray) ++ (⟨#[x]⟩ : ByteArray)) = ⟨(T ++ [x]).toArray⟩ := by
  apply ByteArray.ext
  simp
theorem hex_slice (w : World) (y : UInt8) (h : y.toNat < 16) :
    (Instr.sliceAt 9 (.string ⟨#[48, 49, 50, 51, 52, 53, 54, 55, 56, 57, 97, 98, 99, 100, 101, 102]⟩) (some (.int .u8 (y.toNat : Int))) (some (.int .u8 ((y.toNat : Int) + 1))) none).run Try.prog w = .ok (.string ⟨([hexD y] : List UInt8).toArray⟩) w := by
  rcases hex_16 y h with rfl | rfl | rfl | rfl | rfl | rfl | rfl | rfl | rfl | rfl | rfl | rfl | rfl | rfl | rfl | rfl <;> kernel_rfl
set_option maxRecDepth 100000 in
set_option maxHeartbeats 1000000 in
theorem refHex_any (h : List UInt8) (hl : h.length = 32) (w : World) :
    Calls Try.prog 13 #[.agg (bv h).toArray] w fun e w' => e = .returned (.string ⟨(hexOf h).toArray⟩) ∧ Below w.heap.size w w' := by
  have HL := Lib.hid hl
  clear hl
  go_enter Try.func13, Try.ntmps13
  go_upto_region 1 with fail
  obtain ⟨w1, hw1⟩ : ∃ w1, w1 = w.alloc (.cells (bv h).toArray 24) := ⟨_, rfl⟩
  have hb1 : Below w.heap.size w w1 := by rw [hw1]; exact (Below.refl _ _).alloc (Nat.le_refl _) _
  have h1 : w1.heap[w.heap.size]? = some (.cells (bv h).toArray 24 (0, 0)) := by rw [hw1]; exact heap_alloc_new _ _
  rw [← hw1]
  clear hw1
  obtain ⟨g1, hg1⟩ : ∃ g, w.heap.size = g := ⟨_, rfl⟩
  rw [hg1] at h1 ⊢
  clear hg1
  have H1 := Lib.hid h1
  clear h1
  go_wp2_with fail
  go_loopw [4, 5] (fun v i wr => ∃ (k : Nat) (T : List UInt8), k ≤ 32 ∧ i = .int .i64 k ∧ v = .string ⟨T.toArray⟩ ∧ Hid (T = hexOf (h.take k)) ∧ Below w.heap.size w wr ∧ Below w1.heap.size w1 wr) (fun _ i _ => 32 - (intOf i).toNat)
  case atStart => exact ⟨0, [], by omega, rfl, rfl, rfl, hb1, Below.refl _ _⟩
  case round =>
    clear hb1
    obtain ⟨k, T, hk, rfl, rfl, HT, hb, hb1⟩ := hrel
    by_cases hlt : k < 32
    · have hk1 : (k : Int) < 32 := by omega
      have hk0 : (0 : Int) ≤ k := by omega
      obtain ⟨x, hx⟩ : ∃ x, h.getD k 0 = x := ⟨_, rfl⟩
      have hc : w1.cell? ⟨g1, k, none⟩ = some (.int .u8 (x.toNat : Int)) := cell_of_block H1.out (by rw [List.getElem?_toArray, bv_get _ k (by rw [HL.out]; exact hlt), ← hx, List.getD_eq_getElem?_getD, List.getElem?_eq_getElem (by rw [HL.out]; exact hlt)]; rfl)
      have hc := Keeps.of_below hb1 _ _ hc
      have HC := Lib.hid hc
      obtain ⟨y1, y2, HY1, HY2, b1, b2, E1, E2⟩ := hex_div x
      have HN : Hid (hexOf (h.take (k + 1)) = hexOf (h.take k) ++ [hexD y1, hexD y2]) := by
        show _ = _
        rw [List.take_succ_eq_append_getElem (by rw [HL.out]; exact hlt), hexOf_snoc, E1.out, E2.out, ← hx, List.getD_eq_getElem?_getD, List.getElem?_eq_getElem (by rw [HL.out]; exact hlt)]
        rfl
      have hTl : T.length ≤ 62 := by rw [HT.out, length_hexOf, List.length_take]; omega
      have n1 : ¬ (9223372036854775807 < T.length + 1) := by omega
      have n2 : ¬ (9223372036854775807 < T.length + 1 + 1) := by omega
      clear hx hc
      go_upto_region 6 with fail
      refine wp_region_fresh [Is (.int .i64 (k : Int)), Is (.pointer (some ⟨g1, k, none⟩)), Is (.int .u8 (x.toNat : Int)), Is (.int .u8 (y1.toNat : Int)), Is (.int .i64 (k : Int)), Is (.pointer (some ⟨g1, k, none⟩)), Is (.int .u8 (x.toNat : Int)), Is (.int .u8 (y2.toNat : Int)), Is (.int .u8 (y1.toNat : Int)), Is (.int .u8 (y2.toNat : Int))]
        [[(5, none)], [(1, none), (12, some 0)], [(13, some 1)], [(14, some 2)], [(5, none)], [(1, none), (16, some 4)], [(17, some 5)], [(18, some 6)], [(15, some 3)], [(19, some 7)]]
        (by kernel_rfl) (by kernel_rfl) (by kernel_rfl)
        ⟨mono_is _, mono_is _, mono_is _, mono_is _, mono_is _, mono_is _, mono_is _, mono_is _, mono_is _, mono_is _, trivial⟩ ?vc ?fin
      case vc =>
        refine ⟨?_, ?_, ?_, ?_, ?_, ?_, ?_, ?_, ?_, ?_, trivial⟩
        · exact vf_none rfl (f_mov (.inl rfl) fun A W _ h => h.1)
        · refine vf_none rfl (f_run fun A' W hR h => ?_)
          obtain ⟨h1, h12, _⟩ := h
          replace h1 : A'.tmps[1]?.getD undef = _ := h1
          replace h12 : A'.tmps[12]?.getD undef = _ := h12
          refine ⟨_, W, ?_, Below.refl _ _, rfl⟩
          go_simp
        · refine vf_none rfl (f_run fun A' W hR h => ?_)
          obtain ⟨h13, _⟩ := h
          replace h13 : A'.tmps[13]?.getD undef = _ := h13
          have hc := Keeps.of_below hR _ _ HC.out
          refine ⟨_, W, ?_, Below.refl _ _, rfl⟩
          go_simp
        · refine vf_none rfl (f_run fun A' W hR h => ?_)
          obtain ⟨h14, _⟩ := h
          replace h14 : A'.tmps[14]?.getD undef = _ := h14
          refine ⟨_, W, ?_, Below.refl _ _, rfl⟩
          have h := HY1.out
          have hlt1 := y1.toNat_lt
          go_simp
          all_goals (show (y1.toNat : Int) % 256 = _; omega)
        · exact vf_none rfl (f_mov (.inl rfl) fun A W _ h => h.1)
        · refine vf_none rfl (f_run fun A' W hR h => ?_)
          obtain ⟨h1, h16, _⟩ := h
          replace h1 : A'.tmps[1]?.getD undef = _ := h1
          replace h16 : A'.tmps[16]?.getD undef = _ := h16
          refine ⟨_, W, ?_, Below.refl _ _, rfl⟩
          go_simp
        · refine vf_none rfl (f_run fun A' W hR h => ?_)
          obtain ⟨h17, _⟩ := h
          replace h17 : A'.tmps[17]?.getD undef = _ := h17
          have hc := Keeps.of_below hR _ _ HC.out
          refine ⟨_, W, ?_, Below.refl _ _, rfl⟩
          go_simp
        · refine vf_none rfl (f_run fun A' W hR h => ?_)
          obtain ⟨h18, _⟩ := h
          replace h18 : A'.tmps[18]?.getD undef = _ := h18
          refine ⟨_, W, ?_, Below.refl _ _, rfl⟩
          have h := HY2.out
          go_simp
          all_goals (rw [Int.tmod_eq_emod_of_nonneg (by omega)]; exact HY2.out)
        · exact vf_none rfl (f_mov (.inr rfl) fun A W _ h => h.1)
        · exact vf_none rfl (f_mov (.inr rfl) fun A W _ h => h.1)
      case fin =>
        intro A' W hd hs hR he hr
        obtain ⟨e0, e1, e2, e3, e4, e5, e6, e7, e8, e9, _⟩ := he
        have hA' := act_after [12, 13, 14, 15, 16, 17, 18, 19, 6, 7] rfl hd hs hr
        clear hd hs hr
        replace e0 : A'.tmps[12]?.getD undef = _ := e0
        replace e1 : A'.tmps[13]?.getD undef = _ := e1
        replace e2 : A'.tmps[14]?.getD undef = _ := e2
        replace e3 : A'.tmps[15]?.getD undef = _ := e3
        replace e4 : A'.tmps[16]?.getD undef = _ := e4
        replace e5 : A'.tmps[17]?.getD undef = _ := e5
        replace e6 : A'.tmps[18]?.getD undef = _ := e6
        replace e7 : A'.tmps[19]?.getD undef = _ := e7
        replace e8 : A'.tmps[6]?.getD undef = _ := e8
        replace e9 : A'.tmps[7]?.getD undef = _ := e9
        simp only [frameAfter, List.contains_cons, List.contains_nil, Nat.reduceBEq, Bool.or_false, Bool.or_true, Bool.or_self, Bool.false_or, Bool.true_or, Bool.false_eq_true, if_true, if_false, Nat.reduceAdd, e0, e1, e2, e3, e4, e5, e6, e7, e8, e9] at hA'
        subst hA'
        clear e0 e1 e2 e3 e4 e5 e6 e7 e8 e9
        have hb := below_then hb hR hb.size
        have hb1 := below_then hb1 hR hb1.size
        clear hR
        go_upto_region 7 with fail
        refine wp_region_fresh [Is (.string ⟨T.toArray⟩), Is (.string ⟨#[48, 49, 50, 51, 52, 53, 54, 55, 56, 57, 97, 98, 99, 100, 101, 102]⟩), Is (.int .u8 (y1.toNat : Int)), Is (.int .u8 (y1.toNat : Int)), Is (.int .u8 ((y1.toNat : Int) + 1)), Is (.string ⟨([hexD y1] : List UInt8).toArray⟩), Is (.string ⟨(T ++ [hexD y1]).toArray⟩), Is (.string ⟨#[48, 49, 50, 51, 52, 53, 54, 55, 56, 57, 97, 98, 99, 100, 101, 102]⟩), Is (.int .u8 (y2.toNat : Int)), Is (.int .u8 (y2.toNat : Int)), Is (.int .u8 ((y2.toNat : Int) + 1)), Is (.string ⟨([hexD y2] : List UInt8).toArray⟩), Is (.string ⟨(T ++ [hexD y1] ++ [hexD y2]).toArray⟩), Is (.string ⟨(T ++ [hexD y1] ++ [hexD y2]).toArray⟩)]
          [[(4, none)], [(3, none)], [(6, none)], [(6, none)], [(23, some 3)], [(21, some 1), (22, some 2), (24, some 4)], [(20, some 0), (25, some 5)], [(3, none)], [(7, none)], [(7, none)], [(29, some 9)], [(27, some 7), (28, some 8), (30, some 10)], [(26, some 6), (31, some 11)], [(32, some 12)]]
          (by kernel_rfl) (by kernel_rfl) (by kernel_rfl)
          ⟨mono_is _, mono_is _, mono_is _, mono_is _, mono_is _, mono_is _, mono_is _, mono_is _, mono_is _, mono_is _, mono_is _, mono_is _, mono_is _, mono_is _, trivial⟩ ?vc ?fin
        case vc =>
          refine ⟨?_, ?_, ?_, ?_, ?_, ?_, ?_, ?_, ?_, ?_, ?_, ?_, ?_, ?_, trivial⟩
          · exact vf_none rfl (f_mov (.inl rfl) fun A W _ h => h.1)
          · exact vf_none rfl (f_mov (.inl rfl) fun A W _ h => h.1)
          · exact vf_none rfl (f_mov (.inl rfl) fun A W _ h => h.1)
          · exact vf_none rfl (f_mov (.inl rfl) fun A W _ h => h.1)
          · refine vf_none rfl (f_run fun A' W hR h => ?_)
            obtain ⟨h23, _⟩ := h
            replace h23 : A'.tmps[23]?.getD undef = _ := h23
            refine ⟨_, W, ?_, Below.refl _ _, rfl⟩
            go_simp
            all_goals (show ((y1.toNat : Int) + 1) % 256 = _; omega)
          · refine vf_none rfl (f_run fun A' W hR h => ?_)
            obtain ⟨h21, h22, h24, _⟩ := h
            replace h21 : A'.tmps[21]?.getD undef = _ := h21
            replace h22 : A'.tmps[22]?.getD undef = _ := h22
            replace h24 : A'.tmps[24]?.getD undef = _ := h24
            have h := hex_slice W y1 b1
            refine ⟨_, W, ?_, Below.refl _ _, rfl⟩
            go_simp
          · refine vf_none rfl (f_run fun A' W hR h => ?_)
            obtain ⟨h20, h25, _⟩ := h
            replace h20 : A'.tmps[20]?.getD undef = _ := h20
            replace h25 : A'.tmps[25]?.getD undef = _ := h25
            refine ⟨_, W, ?_, Below.refl _ _, rfl⟩
            go_simp
            all_goals (rw [str_snoc])
          · exact vf_none rfl (f_mov (.inl rfl) fun A W _ h => h.1)
          · exact vf_none rfl (f_mov (.inl rfl) fun A W _ h => h.1)
          · exact vf_none rfl (f_mov (.inl rfl) fun A W _ h => h.1)
          · refine vf_none rfl (f_run fun A' W hR h => ?_)
            obtain ⟨h29, _⟩ := h
            replace h29 : A'.tmps[29]?.getD undef = _ := h29
            refine ⟨_, W, ?_, Below.refl _ _, rfl⟩
            go_simp
            all_goals (show ((y2.toNat : Int) + 1) % 256 = _; omega)
          · refine vf_none rfl (f_run fun A' W hR h => ?_)
            obtain ⟨h27, h28, h30, _⟩ := h
            replace h27 : A'.tmps[27]?.getD undef = _ := h27
            replace h28 : A'.tmps[28]?.getD undef = _ := h28
            replace h30 : A'.tmps[30]?.getD undef = _ := h30
            have h := hex_slice W y2 b2
            refine ⟨_, W, ?_, Below.refl _ _, rfl⟩
            go_simp
          · refine vf_none rfl (f_run fun A' W hR h => ?_)
            obtain ⟨h26, h31, _⟩ := h
            replace h26 : A'.tmps[26]?.getD undef = _ := h26
            replace h31 : A'.tmps[31]?.getD undef = _ := h31
            refine ⟨_, W, ?_, Below.refl _ _, rfl⟩
            go_simp
            all_goals (rw [str_snoc]; simp)
          · exact vf_none rfl (f_mov (.inr rfl) fun A W _ h => h.1)
        case fin =>
          intro A' W hd hs hR he hr
          obtain ⟨e0, e1, e2, e3, e4, e5, e6, e7, e8, e9, e10, e11, e12, e13, _⟩ := he
          have hA' := act_after [20, 21, 22, 23, 24, 25, 26, 27, 28, 29, 30, 31, 32, 4] rfl hd hs hr
          clear hd hs hr
          replace e0 : A'.tmps[20]?.getD undef = _ := e0
          replace e1 : A'.tmps[21]?.getD undef = _ := e1
          replace e2 : A'.tmps[22]?.getD undef = _ := e2
          replace e3 : A'.tmps[23]?.getD undef = _ := e3
          replace e4 : A'.tmps[24]?.getD undef = _ := e4
          replace e5 : A'.tmps[25]?.getD undef = _ := e5
          replace e6 : A'.tmps[26]?.getD undef = _ := e6
          replace e7 : A'.tmps[27]?.getD undef = _ := e7
          replace e8 : A'.tmps[28]?.getD undef = _ := e8
          replace e9 : A'.tmps[29]?.getD undef = _ := e9
          replace e10 : A'.tmps[30]?.getD undef = _ := e10
          replace e11 : A'.tmps[31]?.getD undef = _ := e11
          replace e12 : A'.tmps[32]?.getD undef = _ := e12
          replace e13 : A'.tmps[4]?.getD undef = _ := e13
          simp only [frameAfter, List.contains_cons, List.contains_nil, Nat.reduceBEq, Bool.or_false, Bool.or_true, Bool.or_self, Bool.false_or, Bool.true_or, Bool.false_eq_true, if_true, if_false, Nat.reduceAdd, e0, e1, e2, e3, e4, e5, e6, e7, e8, e9, e10, e11, e12, e13] at hA'
          subst hA'
          clear e0 e1 e2 e3 e4 e5 e6 e7 e8 e9 e10 e11 e12 e13
          have hb := below_then hb hR hb.size
          have hb1 := below_then hb1 hR hb1.size
          go_wp2_with fail
          go_roundw
          case rel =>
            refine ⟨k + 1, T ++ [hexD y1] ++ [hexD y2], by omega, by go_num, rfl, ?_, hb, hb1⟩
            show _ = _
            rw [HN.out, ← HT.out]
            simp
          case measure => simp [intOf]; omega

    · obtain rfl : k = 32 := by omega
      have hall : h.take 32 = h := List.take_of_length_le (by rw [HL.out]; exact Nat.le_refl _)
      rw [hall] at HT
      go_wp2_with fail
      go_ret
      refine ⟨?_, hb⟩
      show Ending.returned (.string ⟨T.toArray⟩) = _
      rw [← HT.out]
end Go.Proofs.Ytkjfejkikejnhaa
