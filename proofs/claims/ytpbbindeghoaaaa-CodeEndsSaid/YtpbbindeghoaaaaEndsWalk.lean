/- CodeEnds: the walk. -/
import Derived.Test.YtpbbindeghoaaaaChecked
import Derived.Test.YtpbbindeghoaaaaCodeKnown
import Derived.Test.YtpbbindeghoaaaaCodeBackPlain
import Derived.Test.YtpbbindeghoaaaaWritesWalk
import Derived.Deep.DeepCutAuto
namespace Go.Proofs.Ytpbbindeghoaaaa
open Go.RowKit

def iv (zs : List Int) : List Value := zs.map fun z => .int .i64 z
theorem length_iv (zs : List Int) : (iv zs).length = zs.length := by simp [iv]
theorem iv_at {zs : List Int} {j : Nat} {z : Int} (h : zs[j]? = some z) : (iv zs)[j]? = some (.int .i64 z) := by simp [iv, h]
theorem cellZ {W : World} {gl n j : Nat} {zs : List Int} {z : Int} (h : Vs W (some ⟨gl, 0, none⟩) n (iv zs)) (hz : zs[j]? = some z) : W.cell? ⟨gl, j, none⟩ = some (.int .i64 z) := by
  have := h.cellAt (iv_at hz)
  rwa [Nat.zero_add] at this
theorem i64_and255 (n : Int) : bits .and .i64 n 255 = n % 256 := by
  have h255 : (BitVec.ofInt 64 255).toNat = 2 ^ 8 - 1 := by decide
  have key : (BitVec.ofInt 64 n &&& BitVec.ofInt 64 255).toNat = (n % ((2 ^ 64 : Nat) : Int)).toNat % 2 ^ 8 := by
    rw [BitVec.toNat_and, BitVec.toNat_ofInt, h255, Nat.and_two_pow_sub_one_eq_mod]
  show IntKind.i64.wrap ((BitVec.ofInt 64 n &&& BitVec.ofInt 64 255).toNat : Nat) = n % 256
  rw [key, IntKind.wrap_i64]
  omega
/-- a number and its lowest byte, each -/
def enc (zs : List Int) : List UInt8 := zs.flatMap fun z => le8 z ++ [i64byte z 0]
theorem enc_take {zs : List Int} {j : Nat} {z : Int} (h : zs[j]? = some z) : enc (zs.take (j + 1)) = enc (zs.take j) ++ (le8 z ++ [i64byte z 0]) := by
  unfold enc
  rw [List.take_add_one, h]
  simp
theorem enc_drop {zs : List Int} {j : Nat} {z : Int} (h : zs[j]? = some z) : enc (zs.drop j) = le8 z ++ ([i64byte z 0] ++ enc (zs.drop (j + 1))) := by
  obtain ⟨hlt, rfl⟩ := List.getElem?_eq_some_iff.1 h
  unfold enc
  rw [List.drop_eq_getElem_cons hlt, List.flatMap_cons, List.append_assoc]

def ceS (g gl j : Nat) (z : Int) : List SPred :=
  [IsL (.pointer (some ⟨g, 0, none⟩)), IsL (.int .i64 z), IsL (.slice (some ⟨gl, 0, none⟩) 6 6), IsL (.int .i64 (j : Int)), IsL (.pointer (some ⟨gl, j, none⟩)), IsL (.int .i64 z), IsL (.bool false), IsL (.bool false), IsL (.pointer (some ⟨g, 0, none⟩)), IsL (.int .i64 ((i64byte z 0).toNat : Int)), IsL (.slice (some ⟨gl, 0, none⟩) 6 6), IsL (.int .i64 (j : Int)), IsL (.pointer (some ⟨gl, j, none⟩)), IsL (.int .i64 z), IsL (.int .i64 ((i64byte z 0).toNat : Int)), IsL (.bool false), IsL (.bool false)]
theorem ceS_mono (g gl j : Nat) (z : Int) : MonoAllL (ceS g gl j z) := ⟨mono_isL _, mono_isL _, mono_isL _, mono_isL _, mono_isL _, mono_isL _, mono_isL _, mono_isL _, mono_isL _, mono_isL _, mono_isL _, mono_isL _, mono_isL _, mono_isL _, mono_isL _, mono_isL _, mono_isL _, trivial⟩

set_option maxRecDepth 100000 in
set_option maxHeartbeats 2000000 in
theorem codeEnds_walk (x y : Int) (w : World) (hx : -9223372036854775808 ≤ x ∧ x ≤ 9223372036854775807) :
    Calls Try.prog 4 #[.int .i64 x, .int .i64 y] w fun e w' => e = .returned (.bool true) ∧ Below w.heap.size w w' := by
  have hy := within_lt y 62 (by omega)
  go_enter Try.func4, Try.ntmps4
  go_upto_region 4 with (first
    | (go_at_call 10; refine Calls.mono (known_any _) ?_; rintro e w1 ⟨rfl, hb1⟩)
    | (go_at_call 17; with_reducible refine Calls.mono (within_any y 62 _ _ rfl (by omega) (by omega)) ?_; rintro e _ ⟨rfl, rfl⟩))
  have hp : -9223372036854775808 ≤ wrap64 (2 ^ within y 62) ∧ wrap64 (2 ^ within y 62) ≤ 9223372036854775807 := by unfold wrap64; omega
  generalize wrap64 (2 ^ within y 62) = p at hp ⊢
  obtain ⟨zs, hzs⟩ : ∃ zs, zs = [x, 9223372036854775807, -9223372036854775808, 0, -1, p] := ⟨_, rfl⟩
  have hzb : ∀ z ∈ zs, -9223372036854775808 ≤ z ∧ z ≤ 9223372036854775807 := by
    rw [hzs]
    intro z hz
    simp only [List.mem_cons, List.not_mem_nil, or_false] at hz
    rcases hz with rfl | rfl | rfl | rfl | rfl | rfl <;> omega
  have hzl : zs.length = 6 := by rw [hzs]; rfl
  have hV0 : Vs (w1.alloc (.cells #[.int .i64 x, .int .i64 9223372036854775807, .int .i64 (-9223372036854775808), .int .i64 0, .int .i64 (-1), .int .i64 p] 3)) (some ⟨w1.heap.size, 0, none⟩) 6 (iv zs) := by
    rw [hzs]; exact Vs.lit (heap_alloc_new w1 _) rfl
  have hbw0 : Below w.heap.size w (w1.alloc (.cells #[.int .i64 x, .int .i64 9223372036854775807, .int .i64 (-9223372036854775808), .int .i64 0, .int .i64 (-1), .int .i64 p] 3)) := hb1.alloc hb1.size _
  have hglt : w1.heap.size < (w1.alloc (.cells #[.int .i64 x, .int .i64 9223372036854775807, .int .i64 (-9223372036854775808), .int .i64 0, .int .i64 (-1), .int .i64 p] 3)).heap.size := by simp
  have HZL := Lib.hid hzl
  have hgw1 := hb1.size
  clear hzs hzl hb1
  generalize w1.alloc (.cells #[.int .i64 x, .int .i64 9223372036854775807, .int .i64 (-9223372036854775808), .int .i64 0, .int .i64 (-1), .int .i64 p] 3) = w2 at hV0 hbw0 hglt ⊢
  generalize w1.heap.size = gl at hV0 hglt hgw1 ⊢
  clear w1
  go_wp2_with fail
  go_loopw [6, 7] (fun v i wr => ∃ (j : Nat) (B : Option Addr) (c : Nat), j ≤ 6 ∧ i = .int .i64 j ∧ v = .slice B (9 * j) c ∧ Bs wr B (9 * j) (enc (zs.take j)) ∧ 9 * j ≤ c ∧ c ≤ 9223372036854775807 ∧ Below w.heap.size w wr ∧ Vs wr (some ⟨gl, 0, none⟩) 6 (iv zs)) (fun _ i _ => 6 - (intOf i).toNat)
  case atStart => exact ⟨0, none, 0, by omega, rfl, rfl, Bs.nil _ _, by omega, by omega, hbw0, hV0⟩
  case round =>
    obtain ⟨j, B, c, hj, rfl, rfl, hB, hc, hc2, hbr, hV⟩ := hrel
    by_cases hlt : j < 6
    · have hj6 : (j : Int) < 6 := by omega
      have hj0 : (0 : Int) ≤ j := by omega
      obtain ⟨z, hz⟩ : ∃ z, zs[j]? = some z := ⟨_, List.getElem?_eq_getElem (by rw [HZL.out]; exact hlt)⟩
      have hzb := hzb z (List.mem_of_getElem? hz)
      have cz := cellZ hV hz
      have henc := Lib.hid (enc_take hz)
      clear hz hV0
      go_upto_region 8 with fail
      refine wp_region_fresh [Is (.slice B (9 * j) c), Is (.slice (some ⟨gl, 0, none⟩) 6 6), Is (.int .i64 (j : Int)), Is (.pointer (some ⟨gl, j, none⟩)), Is (.int .i64 z), BsIs (9 * j + 8) (enc (zs.take j) ++ le8 z), Is (.slice (some ⟨gl, 0, none⟩) 6 6), Is (.int .i64 (j : Int)), Is (.pointer (some ⟨gl, j, none⟩)), Is (.int .i64 z), BsIs (9 * j + 8 + 1) (enc (zs.take j) ++ le8 z ++ [i64byte z 0]), BsIs (9 * j + 8 + 1) (enc (zs.take j) ++ le8 z ++ [i64byte z 0])]
        [[(6, none)], [(5, none)], [(7, none)], [(25, some 1), (26, some 2)], [(27, some 3)], [(24, some 0), (28, some 4)], [(5, none)], [(7, none)], [(30, some 6), (31, some 7)], [(32, some 8)], [(29, some 5), (33, some 9)], [(34, some 10)]]
        (by kernel_rfl) (by kernel_rfl) (by kernel_rfl)
        ⟨mono_is _, mono_is _, mono_is _, mono_is _, mono_is _, mono_bsIs _ _, mono_is _, mono_is _, mono_is _, mono_is _, mono_bsIs _ _, mono_bsIs _ _, trivial⟩ ?vc ?fin
      case vc =>
        refine ⟨?_, ?_, ?_, ?_, ?_, ?_, ?_, ?_, ?_, ?_, ?_, ?_, trivial⟩
        · exact vf_none rfl (f_mov (.inl rfl) fun A W _ h => h.1)
        · exact vf_none rfl (f_mov (.inl rfl) fun A W _ h => h.1)
        · exact vf_none rfl (f_mov (.inl rfl) fun A W _ h => h.1)
        · refine vf_none rfl (f_run fun A' W hR h => ?_)
          obtain ⟨h25, h26, _⟩ := h
          replace h25 : A'.tmps[25]?.getD undef = _ := h25
          replace h26 : A'.tmps[26]?.getD undef = _ := h26
          refine ⟨_, W, ?_, Below.refl _ _, rfl⟩
          go_simp
          all_goals omega
        · refine vf_none rfl (f_run fun A' W hR h => ?_)
          obtain ⟨h27, _⟩ := h
          replace h27 : A'.tmps[27]?.getD undef = _ := h27
          have hc := Keeps.of_below hR _ _ cz
          refine ⟨_, W, ?_, Below.refl _ _, rfl⟩
          go_simp
        · refine vf_none rfl (f_call rfl Try.func11 rfl (by kernel_rfl) fun A' W hR h => ?_)
          obtain ⟨h24, h28, _⟩ := h
          replace h24 : A'.tmps[24]?.getD undef = _ := h24
          show Calls _ _ #[A'.tmps[24]?.getD undef, A'.tmps[28]?.getD undef] _ _
          rw [h24, h28]
          refine Calls.mono (codeInt_any _ _ _ _ z _ (hB.keep (.of_below hR)) (by omega) hzb) ?_
          rintro e W' ⟨u, rfl, ho, hb⟩
          obtain ⟨B', c', rfl, q1, q2, q3, _⟩ := own_slice ho
          exact ⟨_, rfl, hb, _, _, rfl, q3, q1, by simpa [maxLen] using q2⟩
        · exact vf_none rfl (f_mov (.inl rfl) fun A W _ h => h.1)
        · exact vf_none rfl (f_mov (.inl rfl) fun A W _ h => h.1)
        · refine vf_none rfl (f_run fun A' W hR h => ?_)
          obtain ⟨h30, h31, _⟩ := h
          replace h30 : A'.tmps[30]?.getD undef = _ := h30
          replace h31 : A'.tmps[31]?.getD undef = _ := h31
          refine ⟨_, W, ?_, Below.refl _ _, rfl⟩
          go_simp
          all_goals omega
        · refine vf_none rfl (f_run fun A' W hR h => ?_)
          obtain ⟨h32, _⟩ := h
          replace h32 : A'.tmps[32]?.getD undef = _ := h32
          have hc := Keeps.of_below hR _ _ cz
          refine ⟨_, W, ?_, Below.refl _ _, rfl⟩
          go_simp
        · refine vf_none rfl (f_call rfl Try.func13 rfl (by kernel_rfl) fun A' W hR h => ?_)
          obtain ⟨⟨B1, c1, h29, b1, r1, r2⟩, h33, _⟩ := h
          replace h29 : A'.tmps[29]?.getD undef = _ := h29
          replace h33 : A'.tmps[33]?.getD undef = _ := h33
          show Calls _ _ #[A'.tmps[29]?.getD undef, A'.tmps[33]?.getD undef] _ _
          rw [h29, h33]
          refine Calls.mono (codeByte_any _ _ _ _ z _ b1 (by omega) r1 r2) ?_
          rintro e W' ⟨u, rfl, ho, hb⟩
          obtain ⟨B', c', rfl, q1, q2, q3, _⟩ := own_slice ho
          exact ⟨_, rfl, hb, _, _, rfl, q3, q1, by simpa [maxLen] using q2⟩
        · exact vf_none rfl (f_mov (.inr rfl) fun A W _ h => h.1)
      case fin =>
        intro A' W hd hs hR he hr
        obtain ⟨e0, e1, e2, e3, e4, e5, e6, e7, e8, e9, e10, e11, _⟩ := he
        have hA' := act_after [24, 25, 26, 27, 28, 29, 30, 31, 32, 33, 34, 6] rfl hd hs hr
        clear hd hs hr
        obtain ⟨B', c', hv, hB', hn', hc'⟩ := id e11
        obtain ⟨B2, c2, e5, _⟩ := e5
        replace e5 : A'.tmps[29]?.getD undef = _ := e5
        obtain ⟨B3, c3, e10, _⟩ := e10
        replace e10 : A'.tmps[34]?.getD undef = _ := e10
        replace e11 : A'.tmps[6]?.getD undef = _ := hv
        replace e0 : A'.tmps[24]?.getD undef = _ := e0
        replace e1 : A'.tmps[25]?.getD undef = _ := e1
        replace e2 : A'.tmps[26]?.getD undef = _ := e2
        replace e3 : A'.tmps[27]?.getD undef = _ := e3
        replace e4 : A'.tmps[28]?.getD undef = _ := e4
        replace e6 : A'.tmps[30]?.getD undef = _ := e6
        replace e7 : A'.tmps[31]?.getD undef = _ := e7
        replace e8 : A'.tmps[32]?.getD undef = _ := e8
        replace e9 : A'.tmps[33]?.getD undef = _ := e9
        simp only [frameAfter, List.contains_cons, List.contains_nil, Nat.reduceBEq, Bool.or_false, Bool.or_true, Bool.or_self, Bool.false_or, Bool.true_or, Bool.false_eq_true, if_true, if_false, Nat.reduceAdd, e0, e1, e2, e3, e4, e5, e6, e7, e8, e9, e10, e11] at hA'
        subst hA'
        clear e0 e1 e2 e3 e4 e5 e6 e7 e8 e9 e10 e11
        go_wp2_with fail
        go_roundw
        case rel => exact ⟨j + 1, _, _, by omega, by go_num, rfl, by rw [henc.out, ← List.append_assoc]; exact hB', by omega, by omega, below_then hbr hR hbr.size, hV.keep (.of_below hR)⟩
        case measure => simp [intOf]; omega
    · obtain rfl : j = 6 := by omega
      have hfar : ∀ b o, (some ⟨gl, 0, none⟩ : Option Addr) = some ⟨b, o, none⟩ → b = gl := fun b o e => by
        injection e with e; injection e with e1 _; exact e1.symm
      have hglr : gl < wr.heap.size := by
        obtain ⟨b', o', e', hc'⟩ := hV.2 (by omega)
        rw [hfar b' o' e'] at hc'
        exact World.block_lt_of_cell? _ _ (hc' 0 _ (iv_at (List.getElem?_eq_getElem (by rw [HZL.out]; omega))))
      have he : enc (zs.take 6) = enc zs := by rw [List.take_of_length_le (by rw [HZL.out]; omega)]
      rw [he] at hB
      go_upto_region 10 with (go_at_call 18; refine Calls.mono (new_any _ _ _ _ _ hB (by omega)) ?_; rintro e w3 ⟨g, rfl, hg1, hg2, cr3, hb3⟩)
      have hb3w := below_two hbr hb3
      have hV3 := hV.below hb3
      have hgw := Nat.le_trans hbr.size hg1
      have hfar : ∀ b o, (some ⟨gl, 0, none⟩ : Option Addr) = some ⟨b, o, none⟩ → (some g : Option Nat) ≠ some b := fun b o e e2 => by
        have := hfar b o e
        injection e2 with e2
        omega
      clear hV0 hV hbr hb3 hB
      go_wp2_with fail
      go_loopw [9] (fun i wr => ∃ (j : Nat), j ≤ 6 ∧ i = .int .i64 j ∧ Below w.heap.size w wr ∧ Vs wr (some ⟨gl, 0, none⟩) 6 (iv zs) ∧ CR wr g (enc (zs.drop j)) 0) (fun i _ => 6 - (intOf i).toNat)
      case atStart => exact ⟨0, by omega, rfl, hb3w, hV3, cr3⟩
      case round =>
        obtain ⟨j, hj, rfl, hbr, hV, hcr⟩ := hrel
        by_cases hlt : j < 6
        · have hj6 : (j : Int) < 6 := by omega
          have hj0 : (0 : Int) ≤ j := by omega
          obtain ⟨z, hz⟩ : ∃ z, zs[j]? = some z := ⟨_, List.getElem?_eq_getElem (by rw [HZL.out]; exact hlt)⟩
          have hzb := hzb z (List.mem_of_getElem? hz)
          have HT8 := Lib.hid (taken_ok (le8 z) ([i64byte z 0] ++ enc (zs.drop (j + 1))) 8 (length_le8 z))
          have HT1 := Lib.hid (taken_ok [i64byte z 0] (enc (zs.drop (j + 1))) 1 rfl)
          have HI := Lib.hid (int_back z hzb)
          have hzl := byte_lt (i64byte z 0)
          rw [enc_drop hz] at hcr
          go_upto_region 13 with fail
          refine wp_region_L (SLL (ceS g gl j z)) (fun L W => Below w.heap.size w W ∧ Vs W (some ⟨gl, 0, none⟩) 6 (iv zs) ∧ CR W g (if L 9 = true then enc (zs.drop (j + 1)) else if L 1 = true then [i64byte z 0] ++ enc (zs.drop (j + 1)) else le8 z ++ ([i64byte z 0] ++ enc (zs.drop (j + 1)))) 0)
            [[(8, none)], [(43, some 0)], [(5, none)], [(9, none)], [(45, some 2), (46, some 3)], [(47, some 4)], [(44, some 1), (48, some 5)], [(49, some 6)], [(50, some 7), (8, none)], [(50, some 7), (51, some 8)], [(50, some 7), (5, none)], [(50, some 7), (9, none)], [(50, some 7), (53, some 10), (54, some 11)], [(50, some 7), (55, some 12)], [(50, some 7), (56, some 13)], [(50, some 7), (52, some 9), (57, some 14)], [(50, some 7), (58, some 15)]]
            (by kernel_rfl) (by kernel_rfl) (by kernel_rfl) ?start ?vc ?fin
          case vc =>
            refine ⟨?_, ?_, ?_, ?_, ?_, ?_, ?_, ?_, ?_, ?_, ?_, ?_, ?_, ?_, ?_, ?_, ?_, trivial⟩
            · refine vl_of (ceS_mono g gl j z) (fun L W W' hb h => ⟨below_then h.1 hb h.1.size, h.2.1.keep (.of_below hb), h.2.2.below hb⟩) fun L W0 hc hl hp hW => ?_
              exact vf_none rfl (f_mov (.inl rfl) fun A W _ h => h.1)
            · refine vl_call (fun L A W _ => want_none rfl A) rfl Try.func19 rfl (by kernel_rfl) fun L A' W hc hl hp hW h => ?_
              obtain ⟨h43, _⟩ := h
              replace h43 : A'.tmps[43]?.getD undef = _ := h43
              show Calls _ _ #[A'.tmps[43]?.getD undef] _ _
              rw [h43]
              have h9 : L 9 = false := by
                cases h9 : L 9
                · rfl
                · exact absurd (hc.behind (j := 1) [6, 7, 9] (by kernel_rfl) 9 (by decide) h9) (by rw [hl]; decide)
              have hcr := hW.2.2
              rw [h9, hl] at hcr
              simp only [Bool.false_eq_true, if_false] at hcr
              refine Calls.mono (readInt_any g _ 0 _ hcr) ?_
              rw [HT8.out]
              dsimp only
              rw [HI.out]
              rintro e W' ⟨rfl, cr, gr⟩
              refine ⟨_, rfl, ⟨below_grown hW.1 gr hW.1.size hgw, Vs.grownKeep hW.2.1 gr hfar, ?_⟩, ⟨pres_is _, pres_is _, pres_is _, pres_is _, pres_is _, pres_is _, pres_is _, pres_is _, pres_is _, pres_is _, pres_is _, pres_is _, pres_is _, pres_is _, pres_is _, pres_is _, pres_is _, trivial⟩, rfl⟩
              have h9' : upd L 1 9 = false := h9
              have h1' : upd L 1 1 = true := rfl
              rw [h9', h1']
              exact cr
            · refine vl_of (ceS_mono g gl j z) (fun L W W' hb h => ⟨below_then h.1 hb h.1.size, h.2.1.keep (.of_below hb), h.2.2.below hb⟩) fun L W0 hc hl hp hW => ?_
              exact vf_none rfl (f_mov (.inl rfl) fun A W _ h => h.1)
            · refine vl_of (ceS_mono g gl j z) (fun L W W' hb h => ⟨below_then h.1 hb h.1.size, h.2.1.keep (.of_below hb), h.2.2.below hb⟩) fun L W0 hc hl hp hW => ?_
              exact vf_none rfl (f_mov (.inl rfl) fun A W _ h => h.1)
            · refine vl_of (ceS_mono g gl j z) (fun L W W' hb h => ⟨below_then h.1 hb h.1.size, h.2.1.keep (.of_below hb), h.2.2.below hb⟩) fun L W0 hc hl hp hW => ?_
              refine vf_none rfl (f_run fun A' W hR h => ?_)
              obtain ⟨h45, h46, _⟩ := h
              replace h45 : A'.tmps[45]?.getD undef = _ := h45
              replace h46 : A'.tmps[46]?.getD undef = _ := h46
              refine ⟨_, W, ?_, Below.refl _ _, rfl⟩
              go_simp
              all_goals omega
            · refine vl_of (ceS_mono g gl j z) (fun L W W' hb h => ⟨below_then h.1 hb h.1.size, h.2.1.keep (.of_below hb), h.2.2.below hb⟩) fun L W0 hc hl hp hW => ?_
              refine vf_none rfl (f_run fun A' W hR h => ?_)
              obtain ⟨h47, _⟩ := h
              replace h47 : A'.tmps[47]?.getD undef = _ := h47
              have hc := cellZ (hW.2.1.keep (.of_below hR)) hz
              refine ⟨_, W, ?_, Below.refl _ _, rfl⟩
              go_simp
            · refine vl_of (ceS_mono g gl j z) (fun L W W' hb h => ⟨below_then h.1 hb h.1.size, h.2.1.keep (.of_below hb), h.2.2.below hb⟩) fun L W0 hc hl hp hW => ?_
              refine vf_none rfl (f_run fun A' W hR h => ?_)
              obtain ⟨h44, h48, _⟩ := h
              replace h44 : A'.tmps[44]?.getD undef = _ := h44
              replace h48 : A'.tmps[48]?.getD undef = _ := h48
              refine ⟨_, W, ?_, Below.refl _ _, rfl⟩
              go_simp
            · refine vl_of (ceS_mono g gl j z) (fun L W W' hb h => ⟨below_then h.1 hb h.1.size, h.2.1.keep (.of_below hb), h.2.2.below hb⟩) fun L W0 hc hl hp hW => ?_
              exact vf_none rfl (f_mov (.inl rfl) fun A W _ h => h.1)
            · refine vl_of (ceS_mono g gl j z) (fun L W W' hb h => ⟨below_then h.1 hb h.1.size, h.2.1.keep (.of_below hb), h.2.2.below hb⟩) fun L W0 hc hl hp hW => ?_
              exact vf_yes rfl rfl (fun A W _ h => h.1) (f_mov (.inl rfl) fun A W _ h => h.2.1)
            · refine vl_call (fun L A W h => want_yes rfl rfl h.1) rfl Try.func20 rfl (by kernel_rfl) fun L A' W hc hl hp hW h => ?_
              obtain ⟨h50, h51, _⟩ := h
              replace h50 : A'.tmps[50]?.getD undef = _ := h50
              replace h51 : A'.tmps[51]?.getD undef = _ := h51
              show Calls _ _ #[A'.tmps[51]?.getD undef] _ _
              rw [h51]
              have h1 : L 1 = true := hc.behind (j := 1) [6, 7] (by kernel_rfl) 7 (by decide) (hp 7 (by kernel_rfl))
              have hcr := hW.2.2
              rw [hl, h1] at hcr
              simp only [Bool.false_eq_true, if_false, if_true] at hcr
              refine Calls.mono (readByte_any g _ 0 _ hcr) ?_
              rw [HT1.out]
              dsimp only
              rw [leN_one]
              rintro e W' ⟨rfl, cr, gr⟩
              refine ⟨_, rfl, ⟨below_grown hW.1 gr hW.1.size hgw, Vs.grownKeep hW.2.1 gr hfar, ?_⟩, ⟨pres_is _, pres_is _, pres_is _, pres_is _, pres_is _, pres_is _, pres_is _, pres_is _, pres_is _, pres_is _, pres_is _, pres_is _, pres_is _, pres_is _, pres_is _, pres_is _, pres_is _, trivial⟩, rfl⟩
              have h9' : upd L 9 9 = true := rfl
              rw [h9']
              exact cr
            · refine vl_of (ceS_mono g gl j z) (fun L W W' hb h => ⟨below_then h.1 hb h.1.size, h.2.1.keep (.of_below hb), h.2.2.below hb⟩) fun L W0 hc hl hp hW => ?_
              exact vf_yes rfl rfl (fun A W _ h => h.1) (f_mov (.inl rfl) fun A W _ h => h.2.1)
            · refine vl_of (ceS_mono g gl j z) (fun L W W' hb h => ⟨below_then h.1 hb h.1.size, h.2.1.keep (.of_below hb), h.2.2.below hb⟩) fun L W0 hc hl hp hW => ?_
              exact vf_yes rfl rfl (fun A W _ h => h.1) (f_mov (.inl rfl) fun A W _ h => h.2.1)
            · refine vl_of (ceS_mono g gl j z) (fun L W W' hb h => ⟨below_then h.1 hb h.1.size, h.2.1.keep (.of_below hb), h.2.2.below hb⟩) fun L W0 hc hl hp hW => ?_
              refine vf_yes rfl rfl (fun A W _ h => h.1) (f_run fun A' W hR h => ?_)
              obtain ⟨h50, h53, h54, _⟩ := h
              replace h50 : A'.tmps[50]?.getD undef = _ := h50
              replace h53 : A'.tmps[53]?.getD undef = _ := h53
              replace h54 : A'.tmps[54]?.getD undef = _ := h54
              refine ⟨_, W, ?_, Below.refl _ _, rfl⟩
              go_simp
              all_goals omega
            · refine vl_of (ceS_mono g gl j z) (fun L W W' hb h => ⟨below_then h.1 hb h.1.size, h.2.1.keep (.of_below hb), h.2.2.below hb⟩) fun L W0 hc hl hp hW => ?_
              refine vf_yes rfl rfl (fun A W _ h => h.1) (f_run fun A' W hR h => ?_)
              obtain ⟨h50, h55, _⟩ := h
              replace h50 : A'.tmps[50]?.getD undef = _ := h50
              replace h55 : A'.tmps[55]?.getD undef = _ := h55
              have hc := cellZ (hW.2.1.keep (.of_below hR)) hz
              refine ⟨_, W, ?_, Below.refl _ _, rfl⟩
              go_simp
            · refine vl_of (ceS_mono g gl j z) (fun L W W' hb h => ⟨below_then h.1 hb h.1.size, h.2.1.keep (.of_below hb), h.2.2.below hb⟩) fun L W0 hc hl hp hW => ?_
              refine vf_yes rfl rfl (fun A W _ h => h.1) (f_run fun A' W hR h => ?_)
              obtain ⟨h50, h56, _⟩ := h
              replace h50 : A'.tmps[50]?.getD undef = _ := h50
              replace h56 : A'.tmps[56]?.getD undef = _ := h56
              refine ⟨_, W, ?_, Below.refl _ _, rfl⟩
              go_simp
              all_goals rw [i64_and255, i64byte0]
            · refine vl_of (ceS_mono g gl j z) (fun L W W' hb h => ⟨below_then h.1 hb h.1.size, h.2.1.keep (.of_below hb), h.2.2.below hb⟩) fun L W0 hc hl hp hW => ?_
              refine vf_yes rfl rfl (fun A W _ h => h.1) (f_run fun A' W hR h => ?_)
              obtain ⟨h50, h52, h57, _⟩ := h
              replace h50 : A'.tmps[50]?.getD undef = _ := h50
              replace h52 : A'.tmps[52]?.getD undef = _ := h52
              replace h57 : A'.tmps[57]?.getD undef = _ := h57
              refine ⟨_, W, ?_, Below.refl _ _, rfl⟩
              go_simp
            · refine vl_of (ceS_mono g gl j z) (fun L W W' hb h => ⟨below_then h.1 hb h.1.size, h.2.1.keep (.of_below hb), h.2.2.below hb⟩) fun L W0 hc hl hp hW => ?_
              refine vf_none rfl (f_run fun A' W hR h => ?_)
              obtain ⟨h50, h58, _⟩ := h
              replace h50 : A'.tmps[50]?.getD undef = _ := h50
              replace h58 : A'.tmps[58]?.getD undef = _ := h58
              refine ⟨_, W, ?_, Below.refl _ _, rfl⟩
              go_simp
          case fin =>
            intro L A' W hd hs hl hW he hr
            obtain ⟨e0, e1, e2, e3, e4, e5, e6, e7, e8, e9, e10, e11, e12, e13, e14, e15, e16, _⟩ := he
            have hA' := act_after [43, 44, 45, 46, 47, 48, 49, 50, 51, 52, 53, 54, 55, 56, 57, 58, 59] rfl hd hs hr
            clear hd hs hr
            replace e0 : A'.tmps[43]?.getD undef = _ := e0
            replace e1 : A'.tmps[44]?.getD undef = _ := e1
            replace e2 : A'.tmps[45]?.getD undef = _ := e2
            replace e3 : A'.tmps[46]?.getD undef = _ := e3
            replace e4 : A'.tmps[47]?.getD undef = _ := e4
            replace e5 : A'.tmps[48]?.getD undef = _ := e5
            replace e6 : A'.tmps[49]?.getD undef = _ := e6
            replace e7 : A'.tmps[50]?.getD undef = _ := e7
            replace e8 : A'.tmps[51]?.getD undef = _ := e8
            replace e9 : A'.tmps[52]?.getD undef = _ := e9
            replace e10 : A'.tmps[53]?.getD undef = _ := e10
            replace e11 : A'.tmps[54]?.getD undef = _ := e11
            replace e12 : A'.tmps[55]?.getD undef = _ := e12
            replace e13 : A'.tmps[56]?.getD undef = _ := e13
            replace e14 : A'.tmps[57]?.getD undef = _ := e14
            replace e15 : A'.tmps[58]?.getD undef = _ := e15
            replace e16 : A'.tmps[59]?.getD undef = _ := e16
            simp only [frameAfter, List.contains_cons, List.contains_nil, Nat.reduceBEq, Bool.or_false, Bool.or_true, Bool.or_self, Bool.false_or, Bool.true_or, Bool.false_eq_true, if_true, if_false, Nat.reduceAdd, e0, e1, e2, e3, e4, e5, e6, e7, e8, e9, e10, e11, e12, e13, e14, e15, e16] at hA'
            subst hA'
            clear e0 e1 e2 e3 e4 e5 e6 e7 e8 e9 e10 e11 e12 e13 e14 e15 e16
            have h9 := hl 9 (by decide)
            obtain ⟨hbw, hV', hcr⟩ := hW
            rw [h9] at hcr
            simp only [if_true] at hcr
            go_wp2_with fail
            go_roundw
            case rel => exact ⟨j + 1, by omega, by go_num, hbw, hV', hcr⟩
            case measure => simp [intOf]; omega
          case start => exact ⟨below_drewN' hbr 1, hV, hcr⟩
        · obtain rfl : j = 6 := by omega
          have he2 : enc (zs.drop 6) = [] := by rw [List.drop_eq_nil_of_le (by rw [HZL.out]; omega)]; rfl
          rw [he2] at hcr
          have hgo := id hcr
          obtain ⟨_, _, _, hgo, _⟩ := hgo
          have hcl := cell_of_block (i := 0) hgo rfl
          clear hgo
          go_wp2_with (go_at_call 21; refine Calls.mono (end_any g [] 0 _ hcr) ?_; rw [show ended [] 0 = 0 by simp [ended]]; rintro e _ ⟨rfl, rfl⟩)
          go_ret
          exact ⟨rfl, hbr⟩
theorem codeEnds_top (x y : Int) (w : World) (hx : -9223372036854775808 ≤ x ∧ x ≤ 9223372036854775807) (_ : -9223372036854775808 ≤ y ∧ y ≤ 9223372036854775807) :
    Calls Try.prog 4 #[.int .i64 x, .int .i64 y] w fun e w' => e = .returned (.bool true) ∧ Below w.heap.size w w' := codeEnds_walk x y w hx
end Go.Proofs.Ytpbbindeghoaaaa
