/- sha.Sum. -/
import Derived.Test.YtkncomkncfcecaaShaComp
import Derived.Test.YtkncomkncfcecaaConcat
set_option linter.unusedVariables false
set_option linter.unusedSimpArgs false
namespace Go.Proofs.Ytkncomkncfcecaa
open Go.RowKit
def z32 : List UInt8 := List.replicate 32 0
theorem ZL : z32.length = 32 := List.length_replicate
theorem hashZero : (Try.prog.info? 29).bind (·.zero) = some (.agg (bv z32).toArray) := zeroB_of z32 (by kernel_rfl)
theorem hashInfo : (Try.prog.info? 29).map (·.size) = some 32 := by kernel_rfl
theorem hashUnder : Try.prog.underlying 29 = some (.array 32 5) := by kernel_rfl
theorem size_bv (l : List UInt8) : (bv l).toArray.size = l.length := by simp [bv]
theorem infoH (L : List UInt8) (h : L.length = 32) : (Try.prog.info? 29).map (·.size) = some (bv L).toArray.size := by rw [hashInfo, size_bv, h]
theorem sizeH (L M : List UInt8) (h : L.length = 32) (h' : M.length = 32) : (bv L).toArray.size = (bv M).toArray.size := by rw [size_bv, size_bv, h, h']
theorem lit8 (W : World) (x : UInt8) : Bs (W.alloc (.cells #[.int .u8 (x.toNat : Int)] 5)) (some ⟨W.heap.size, 0, none⟩) 1 [x] := Bs.lit 5 rfl [x] rfl rfl
theorem len_byte (N j : Nat) : ∃ x : UInt8, (N : Int) * 8 / 2 ^ (56 - 8 * j) % 256 = (x.toNat : Int) ∧ x = UInt8.ofNat (N * 8 / 2 ^ (56 - 8 * j)) := by
  refine ⟨_, ?_, rfl⟩
  rw [UInt8.toNat_ofNat']
  generalize 56 - 8 * j = e
  rw [Int.natCast_emod, Int.natCast_ediv, Int.natCast_mul, Int.natCast_pow]
  rfl
theorem out_byte (X : W32) (e : Nat) : ∃ x : UInt8, (X.toNat : Int) / 2 ^ e % 256 = (x.toNat : Int) ∧ x = UInt8.ofNat (X.toNat / 2 ^ e) := by
  refine ⟨_, ?_, rfl⟩
  rw [UInt8.toNat_ofNat', Int.natCast_emod, Int.natCast_ediv, Int.natCast_pow]
  rfl
theorem Wq (F : List W32) (k : Nat) : outB F (k + 1) = outB F k ++ [UInt8.ofNat ((F.getD (k / 4) 0).toNat / 2 ^ (24 - 8 * (k % 4)))] := rfl
theorem Vg (F : List W32) (k : Nat) (hk : k < 32) (x : UInt8) (hx : outB F (k + 1) = outB F k ++ [x]) : (outB F k ++ List.replicate (32 - k) 0).set k x = outB F (k + 1) ++ List.replicate (32 - (k + 1)) 0 := by
  have hl := Xh F k
  rw [hx, List.set_append_right _ _ (by omega), hl, Nat.sub_self, show 32 - k = (32 - (k + 1)) + 1 by omega, List.replicate_succ]
  simp
theorem bv_setCell {w : World} {g : Nat} {l : List UInt8} {t : TypeId} {fr : Nat × Nat} (h : w.heap[g]? = some (.cells (bv l).toArray t fr)) (i : Nat) (x : UInt8) :
    (w.setCell ⟨g, i, none⟩ (.int .u8 (x.toNat : Int))).heap[g]? = some (.cells (bv (l.set i x)).toArray t fr) := by
  rw [← bv_set]; exact ZB _ h
theorem Vs.setRow {w : World} {A : Option Addr} {n g : Nat} {xs : List Value} (h : Vs w A n xs) (hne : ∀ b o, A = some ⟨b, o, none⟩ → b ≠ g) (cs : Array Value) : Vs (w.setRow g cs) A n xs :=
  ⟨h.1, fun hn => by
    obtain ⟨b, o, e, hc⟩ := h.2 hn
    exact ⟨b, o, e, fun i u hu => by rw [cell_setRow_other _ _ _ _ (hne b o e)]; exact hc i u hu⟩⟩
theorem bs_lt {W : World} {b o n : Nat} {l : List UInt8} (h : Bs W (some ⟨b, o, none⟩) n l) (h0 : 0 < n) : b < W.heap.size := by
  obtain ⟨b', o', e, hc⟩ := h.2 h0
  injection e with e
  injection e with e1 e2
  subst e1
  exact World.block_lt_of_cell? W _ (hc 0 _ (bv_get l 0 (by rw [h.len]; exact h0)))
theorem blks_next (P : List UInt8) (j : Nat) : comp (blks P j) ((P.drop (64 * j)).take 64) = blks P (j + 1) := rfl
set_option maxRecDepth 100000 in
set_option maxHeartbeats 1000000 in
theorem shaSum_any (A : Option Addr) (n c : Nat) (ls : List (List UInt8)) (w : World) (hA : Ps w A n ls) (hn : n ≤ 1048576) (hsum : ls.flatten.length ≤ 1099511627776) :
    Calls Try.prog 64 #[.slice A n c] w fun e w' => e = .returned (.agg (bv (sha ls.flatten)).toArray) ∧ Below w.heap.size w w' := by
  obtain ⟨l, hl⟩ : ∃ l, ls.flatten = l := ⟨_, rfl⟩
  obtain ⟨N, hN⟩ : ∃ N, l.length = N := ⟨_, rfl⟩
  rw [hl] at hsum ⊢
  rw [hN] at hsum
  have HL := Lib.hid hl
  have HN := Lib.hid hN
  clear hl hN
  go_enter Try.func64, Try.ntmps64
  go_upto_region 1 with (with_reducible refine Yg rfl 29 rfl hashZero ?_)
  obtain ⟨w1, hw1⟩ : ∃ w1, w1 = w.alloc (.cells (bv z32).toArray 29) := ⟨_, rfl⟩
  have hb1 : Below w.heap.size w w1 := by rw [hw1]; exact (Below.refl _ _).alloc (Nat.le_refl _) _
  have h2 : w1.heap[w.heap.size]? = some (.cells (bv z32).toArray 29 (0, 0)) := by rw [hw1]; exact heap_alloc_new _ _
  rw [← hw1]
  clear hw1
  have l2 : w.heap.size < w1.heap.size := (Array.getElem?_eq_some_iff.1 h2).1
  obtain ⟨g2, hg2⟩ : ∃ g2, w.heap.size = g2 := ⟨_, rfl⟩
  rw [hg2] at h2 l2 ⊢
  have b2 : w.heap.size ≤ g2 := by omega
  have hA1 := hA.keep (.of_below hb1)
  have H2 := Lib.hid h2
  clear hg2 h2
  have s1 := hb1.size
  have e8 : IntKind.u64.wrap ((N : Int) * 8) = N * 8 := by show (N : Int) * 8 % 18446744073709551616 = _; omega
  have e8' : (N : Int) * 8 % 18446744073709551616 = N * 8 := by omega
  have e9 : IntKind.u64.wrap (N : Int) = N := by show (N : Int) % 18446744073709551616 = _; omega
  have e9' : (N : Int) % 18446744073709551616 = N := by omega
  go_upto_region 3 with (go_at_call 57; refine Calls.mono (concat_any A n c ls _ hA1 hn (by rw [HL.out, HN.out]; exact hsum)) ?_; rw [HL.out, HN.out]; rintro e w2 ⟨v, rfl, hown, hb2⟩; obtain ⟨A2, c2, rfl, o1, o2, o3, _⟩ := ZP hown)
  have hbel := Z1 hb1 hb2 s1
  have B0 : w.heap.size ≤ w1.heap.size := s1
  have B2 := hb2.size
  clear e8 e8' e9 e9' hA1
  go_wp2_with (at_builtin; refine appendB _ rfl (.tmp 15) (.tmp 16) rfl w1.heap.size _ N l rfl (hown.alloc _) _ 1 1 [0x80] rfl (lit8 w2 0x80) (by omega) (by simp; omega) ?_; intro v3 w3 hown3 hg3 hat3)
  have hb3 := Yq (hb2.alloc B2 (.cells #[.int .u8 128] 5)) hg3 (hown.alloc _) (by simp; omega)
  have hz := zeros_lt N
  have hz2 := zeros_eq N
  have hzb : zeros N < 64 := Nat.mod_lt _ (by omega)
  have HZ := Lib.hid hz
  have HZ2 := Lib.hid hz2
  clear hz hz2
  go_loopw [3] (fun v wr => ∃ (k m : Nat), k ≤ zeros N ∧ Hid (m = N + 1 + k) ∧ m ≤ N + 64 ∧ wr.ownsRow w1.heap.size 5 1 v m (bv (padZ l k)) ∧ Below w1.heap.size w1 wr) (fun v _ => match v with | .slice _ m _ => N + 64 - m | _ => N + 64)
  case atStart => exact ⟨0, N + 1, by omega, rfl, by omega, by rw [show padZ l 0 = l ++ [128] by simp [padZ]]; exact hown3, hb3⟩
  case round =>
    clear hown3 hb3 hat3 hg3 hown hb2
    obtain ⟨k, m, hk, hm, hm64, hown, hb⟩ := hrel
    obtain ⟨A3, c3, rfl, p1, p2, p3, _⟩ := ZP hown
    have hsz := hb.size
    by_cases hlt : k < zeros N
    · have h56 : ((m : Int) % 64 == 56) = false := by have := HZ.out k hlt; have := hm.out; rw [beq_eq_false_iff_ne]; omega
      have h56' : ((m : Int) % 64 != 56) = true := by rw [bne_iff_ne]; rw [beq_eq_false_iff_ne] at h56; exact h56
      go_wp2_with (at_builtin; refine appendB _ rfl (.tmp 22) (.tmp 23) rfl w1.heap.size _ m (padZ l k) rfl (hown.alloc _) _ 1 1 [0] rfl (lit8 wr 0) (by omega) (by simp; omega) ?_; intro v4 w4 hown4 hg4 hat4)
      go_roundw
      case rel =>
        refine ⟨k + 1, m + 1, by omega, by show m + 1 = N + 1 + (k + 1); rw [hm.out]; omega, by have := hm.out; omega, ?_, Yq (hb.alloc hsz _) hg4 (hown.alloc _) (by simp; omega)⟩
        rw [← padZ_next]
        exact hown4
      case measure =>
        obtain ⟨A4, c4, rfl, _⟩ := ZP hown4
        have := hm.out
        show N + 64 - (m + 1) < N + 64 - m
        omega
    · obtain rfl : k = zeros N := by omega
      have h56 : ((m : Int) % 64 == 56) = true := by have := HZ2.out; have := hm.out; rw [beq_iff_eq]; omega
      have h56' : ((m : Int) % 64 != 56) = false := by rw [beq_iff_eq] at h56; rw [h56]; rfl
      have h0 : padZ l (zeros N) = padL l 0 := by unfold padL; rw [HN.out, show lenBytes N 0 = [] from rfl, List.append_nil]
      rw [h0] at hown
      clear h0
      go_wp2_with fail
      clear h56 h56'
      go_loopw [3, 25] (fun v i wr => ∃ (j q : Nat), j ≤ 8 ∧ i = .int .i64 j ∧ Hid (q = m + j) ∧ q ≤ N + 72 ∧ wr.ownsRow w1.heap.size 5 1 v q (bv (padL l j)) ∧ Below w1.heap.size w1 wr) (fun _ i _ => 8 - (intOf i).toNat)
      case atStart => exact ⟨0, m, by omega, rfl, rfl, by omega, hown, hb⟩
      case round =>
        clear hown hb p3 p2 p1 hsz
        obtain ⟨j, q, hj, rfl, hq, hq72, hown, hb⟩ := hrel
        obtain ⟨A4, c4, rfl, p1, p2, p3, _⟩ := ZP hown
        have hsz := hb.size
        by_cases hlt : j < 8
        · have hj1 : (j : Int) < 8 := by omega
          have hj0 : (0 : Int) ≤ j := by omega
          have e1 : IntKind.i64.wrap (8 * (j : Int)) = 8 * j := IntWalk.i64_in _ (by omega)
          have e2 : IntKind.i64.wrap (56 - 8 * (j : Int)) = 56 - 8 * j := IntWalk.i64_in _ (by omega)
          obtain ⟨x, hx, hxe⟩ := len_byte N j
          have HX := Lib.hid hxe
          clear hxe
          go_wp2_with (at_builtin; refine appendB _ rfl (.tmp 28) (.tmp 35) rfl w1.heap.size _ q (padL l j) rfl (hown.alloc _) _ 1 1 [x] rfl (lit8 wr x) (by omega) (by simp; omega) ?_; intro v5 w5 hown5 hg5 hat5)
          go_roundw
          case rel =>
            refine ⟨j + 1, q + 1, by omega, by go_num, by show q + 1 = m + (j + 1); rw [hq.out]; omega, by have := hq.out; omega, ?_, Yq (hb.alloc hsz _) hg5 (hown.alloc _) (by simp; omega)⟩
            rw [← padL_next l j x (by rw [HN.out]; exact HX.out)]
            exact hown5
          case measure => simp [intOf]; omega
        · obtain rfl : j = 8 := by omega
          have hqN := hq.out
          have hmN := hm.out
          have hq64 : ∃ T, q = 64 * T := ⟨q / 64, by have := HZ2.out; omega⟩
          obtain ⟨T, hT⟩ := hq64
          obtain ⟨P, hP⟩ : ∃ P, padL l 8 = P := ⟨_, rfl⟩
          have hsha : Hid (sha l = outB (blks P T).words 32) := by
            show sha l = _
            unfold sha
            have hl : (padS l).length = q := by rw [padS_eq, ← Ye]; exact p3.1
            rw [hl, padS_eq, hP, show q / 64 = T by omega]
          rw [hP] at p3
          obtain ⟨b, o, rfl⟩ := p3.some_ (by omega)
          have hB := p3
          have hbr : b < wr.heap.size := bs_lt hB (by omega)
          have HT := Lib.hid hT
          clear hown hqN hmN hm hq hP hT p3 hm64
          go_upto_region 12 with (first
            | (go_at_call 86; refine Calls.mono (begun_any _) ?_; rintro e w6 ⟨rfl, hb6⟩)
            | ((with_reducible refine Yg (o := ⟨some 6, _, _, _, _, _⟩) rfl 129 rfl z8Zero ?_); (refine wpList_store_row rfl 129 (.tmp 6) (.tmp 38) rfl w6.heap.size (wv st0.words).toArray rfl rfl 129 (wv z8).toArray (heap_alloc_new _ _) (info8 _ rfl) (size8 _ _ z8_len rfl) (X6 _) ?_)))
          obtain ⟨w7, hw7⟩ : ∃ w7, w7 = (w6.alloc (.cells (wv z8).toArray 129)).setRow w6.heap.size (wv st0.words).toArray := ⟨_, rfl⟩
          have hb7 : Below w6.heap.size w6 w7 := by rw [hw7]; exact ZY ((Below.refl _ _).alloc (Nat.le_refl _) _) (Nat.le_refl _) _
          have h6 : w7.heap[w6.heap.size]? = some (.cells (wv (blks P 0).words).toArray 129 (0, 0)) := by rw [hw7]; exact ZQ (heap_alloc_new _ _)
          rw [← hw7]
          clear hw7
          have s6 := hb6.size
          have hbw := Z1 (Z1 hb hb6 hsz) hb7 (by omega)
          have hB : Bs w7 (some ⟨b, o, none⟩) q (P.drop (64 * 0)) := (hB.keep (.of_below hb6)).keep (.of_below hb7)
          obtain ⟨g6, hg6⟩ : ∃ g6, w6.heap.size = g6 := ⟨_, rfl⟩
          rw [hg6] at h6 ⊢
          have b6 : w1.heap.size ≤ g6 := by omega
          have n2 : g2 ≠ g6 := by omega
          have nb : b < g6 := by omega
          have hc9 : c4 ≤ 9223372036854775807 := by simpa [maxLen] using p2
          clear hb6 hb7 s6 hg6 p2 hb hsz hbr
          simp only [Act.put, List.setIfInBounds_toArray, List.set_cons_succ, List.set_cons_zero]
          go_loopw [3] (fun v wr => ∃ (j r cc o' : Nat), r + 64 * j = q ∧ v = .slice (some ⟨b, o', none⟩) r cc ∧ r ≤ cc ∧ cc ≤ 9223372036854775807 ∧ Bs wr (some ⟨b, o', none⟩) r (P.drop (64 * j)) ∧ Below w1.heap.size w1 wr ∧
            wr.heap[g6]? = some (.cells (wv (blks P j).words).toArray 129 (0, 0))) (fun v _ => match v with | .slice _ r _ => r | _ => 0)
          case atStart => exact ⟨0, q, c4, o, by omega, rfl, p1, hc9, hB, hbw, h6⟩
          case round =>
            clear hB hbw h6 hc9
            obtain ⟨j, r, cc, o, hj, rfl, hrc, hc9, hB, hbw, h6⟩ := hrel
            have hrT : r = 64 * (T - j) := by have := HT.out; omega
            by_cases hr0 : 0 < r
            · have hr64 : 64 ≤ r := by omega
              have hr0' : (0 : Int) < r := by omega
              have hr1 : (64 : Int) ≤ cc := by omega
              have hr2 : (64 : Int) ≤ r := by omega
              have l6 : g6 < wr.heap.size := (Array.getElem?_eq_some_iff.1 h6).1
              have hB64 := hB.to_ (k := 64) hr64
              have H6 := Lib.hid h6
              have HRT := Lib.hid hrT
              have HJ := Lib.hid hj
              clear h6 hrT hj
              go_upto_region 13 with fail
              refine ZD 4 [Is (.agg (wv (blks P j).words).toArray), Is (.slice (some ⟨b, o, none⟩) r cc), Is (.slice (some ⟨b, o, none⟩) 64 cc), Is (.agg (wv (blks P (j + 1)).words).toArray)]
                [[(6, none)], [(3, none)], [(43, some 1)], [(42, some 0), (44, some 2)]]
                (by kernel_rfl) (by kernel_rfl) (by kernel_rfl) (by kernel_rfl)
                ⟨Zo _, Zo _, Zo _, Zo _, trivial⟩ ?vc ?fin
              case vc =>
                refine ⟨?_, ?_, ?_, ?_, trivial⟩
                · refine Zl rfl (Z7 fun A' W hR h => ?_)
                  obtain ⟨h6x, _⟩ := h
                  replace h6x : A'.tmps[6]?.getD undef = .pointer (some ⟨g6, 0, none⟩) := h6x
                  have h6 : W.heap[g6]? = some (.cells (wv (blks P j).words).toArray 129 (0, 0)) := by rw [hR.block g6 l6]; exact H6.out
                  refine ⟨_, W, ?_, Below.refl _ _, rfl⟩
                  exact run_loadRowOp 129 6 rfl h6x h6 stUnder rfl (info8 _ rfl)
                · exact Zl rfl (ZF (.inl rfl) fun A W _ h => h.1)
                · refine Zl rfl (Z7 fun A' W hR h => ?_)
                  obtain ⟨h43, _⟩ := h
                  replace h43 : A'.tmps[43]?.getD undef = _ := h43
                  refine ⟨_, W, ?_, Below.refl _ _, rfl⟩
                  go_simp
                · refine Zl rfl (XB rfl Try.func87 rfl (by kernel_rfl) fun A' W hR h => ?_)
                  obtain ⟨h42, h44, _⟩ := h
                  replace h42 : A'.tmps[42]?.getD undef = _ := h42
                  replace h44 : A'.tmps[44]?.getD undef = _ := h44
                  show Calls _ _ #[A'.tmps[42]?.getD undef, A'.tmps[44]?.getD undef] _ _
                  rw [h42, h44]
                  have hB := hB64.keep (.of_below hR)
                  refine Calls.mono (add_any (blks P j) _ 64 cc _ _ hB (by omega) (by omega)) ?_
                  rintro e W' ⟨rfl, hb'⟩
                  exact ⟨_, rfl, hb', rfl⟩
              case fin =>
                intro A' W hd hs hR he hr
                obtain ⟨e0, e1, e2, e3, _⟩ := he
                have hA' := Yn [42, 43, 44, 45] rfl hd hs hr
                clear hd hs hr
                replace e0 : A'.tmps[42]?.getD undef = _ := e0
                replace e1 : A'.tmps[43]?.getD undef = _ := e1
                replace e2 : A'.tmps[44]?.getD undef = _ := e2
                replace e3 : A'.tmps[45]?.getD undef = _ := e3
                simp only [frameAfter, List.contains_cons, List.contains_nil, Nat.reduceBEq, Bool.or_false, Bool.or_true, Bool.or_self, Bool.false_or, Bool.true_or, Bool.false_eq_true, if_true, if_false, Nat.reduceAdd, e0, e1, e2, e3] at hA'
                subst hA'
                clear e0 e1 e2 e3
                have hb8 := Z1 hbw hR (by have := hbw.size; omega)
                have h6 : W.heap[g6]? = some (.cells (wv (blks P j).words).toArray 129 (0, 0)) := by rw [hR.block g6 l6]; exact H6.out
                have hB8 := hB.keep (.of_below hR)
                have H6 := Lib.hid h6
                clear h6 hbw hR hB hB64
                go_upto_region 14 with (refine wpList_store_row (o := ⟨none, .store 129 (.tmp 6) (.tmp 45), _, _, _, _⟩) rfl 129 (.tmp 6) (.tmp 45) rfl g6 (wv (blks P (j + 1)).words).toArray rfl rfl 129 (wv (blks P j).words).toArray H6.out (info8 _ rfl) (size8 _ _ rfl rfl) (X6 _) ?_)
                have hB9 : Bs (W.setRow g6 (wv (blks P (j + 1)).words).toArray) (some ⟨b, o, none⟩) r (P.drop (64 * j)) := Vs.setRow hB8 (fun b' o' e => by injection e with e; injection e with e; omega) _
                have h6 := ZQ (cs := (wv (blks P (j + 1)).words).toArray) H6.out
                have hb9 := ZY hb8 b6 (wv (blks P (j + 1)).words).toArray
                generalize W.setRow g6 (wv (blks P (j + 1)).words).toArray = w9 at *
                have hdr : (P.drop (64 * j)).drop 64 = P.drop (64 * (j + 1)) := by rw [List.drop_drop]; congr 1
                by_cases hcap : cc = 64
                · subst hcap
                  obtain rfl : r = 64 := by omega
                  have hB10 := hB9.from_ (k := 64) (cap := 64) (by omega) (by omega)
                  rw [if_pos rfl, hdr] at hB10
                  go_wp2_with fail
                  go_roundw
                  case rel => have hj := HJ.out; exact ⟨j + 1, 0, 0, o, by omega, rfl, by omega, by omega, hB10, hb9, h6⟩
                  case measure => simp
                · have hB10 := hB9.from_ (k := 64) (cap := cc) (by omega) (by omega)
                  rw [if_neg hcap, hdr] at hB10
                  have hr64 : (64 : Int) ≤ r := by omega
                  go_wp2_with fail
                  go_roundw
                  case rel => have hj := HJ.out; exact ⟨j + 1, r - 64, cc - 64, o + 64, by omega, rfl, by omega, by omega, hB10, hb9, h6⟩
                  case measure =>
                    show r - 64 < r
                    omega
            · obtain rfl : r = 0 := by omega
              have hjT : j = T := by have := HT.out; omega
              rw [← hjT] at hsha
              obtain ⟨F, hF⟩ : ∃ F, (blks P j).words = F := ⟨_, rfl⟩
              have hFl : F.length = 8 := by rw [← hF]; rfl
              rw [hF] at h6 hsha
              have HFl := Lib.hid hFl
              have H6 := Lib.hid h6
              have l6 : g6 < wr.heap.size := (Array.getElem?_eq_some_iff.1 h6).1
              have H2 : Hid (wr.heap[g2]? = some (.cells (bv z32).toArray 29 (0, 0))) := by show _ = _; rw [hbw.block g2 l2]; exact H2.out
              have l2 : g2 < wr.heap.size := by omega
              clear hFl h6 hjT hF hj hrT hB
              go_upto_region 16 with (with_reducible refine Yg rfl 29 rfl hashZero ?_)
              obtain ⟨w7, hw7⟩ : ∃ w7, w7 = wr.alloc (.cells (bv z32).toArray 29) := ⟨_, rfl⟩
              have hb7 : Below wr.heap.size wr w7 := by rw [hw7]; exact (Below.refl _ _).alloc (Nat.le_refl _) _
              have h7 : w7.heap[wr.heap.size]? = some (.cells (bv (outB F 0 ++ List.replicate (32 - 0) 0)).toArray 29 (0, 0)) := by rw [hw7]; exact heap_alloc_new _ _
              have h2 : w7.heap[g2]? = some (.cells (bv z32).toArray 29 (0, 0)) := by rw [hb7.block g2 l2]; exact H2.out
              have h6 : w7.heap[g6]? = some (.cells (wv F).toArray 129 (0, 0)) := by rw [hb7.block g6 l6]; exact H6.out
              have hbw := Z1 (Z1 hb1 hbw s1) hb7 (by have := hbw.size; omega)
              rw [← hw7]
              clear hw7
              obtain ⟨g7, hg7⟩ : ∃ g7, wr.heap.size = g7 := ⟨_, rfl⟩
              rw [hg7] at h7 ⊢
              have n27 : g2 ≠ g7 := by omega
              have n67 : g6 ≠ g7 := by omega
              have b7 : w.heap.size ≤ g7 := by omega
              clear hg7 hb7 H2 H6
              go_wp2_with fail
              go_loopw [48] (fun i wr => ∃ (k : Nat), k ≤ 32 ∧ i = .int .i64 k ∧ Below w.heap.size w wr ∧ wr.heap[g2]? = some (.cells (bv z32).toArray 29 (0, 0)) ∧ wr.heap[g6]? = some (.cells (wv F).toArray 129 (0, 0)) ∧
                wr.heap[g7]? = some (.cells (bv (outB F k ++ List.replicate (32 - k) 0)).toArray 29 (0, 0))) (fun i _ => 32 - (intOf i).toNat)
              case atStart => exact ⟨0, by omega, rfl, hbw, h2, h6, h7⟩
              case round =>
                clear hbw h2 h6 h7
                obtain ⟨k, hk, rfl, hbw, h2, h6, h7⟩ := hrel
                by_cases hlt : k < 32
                · have hk1 : (k : Int) < 32 := by omega
                  have hk0 : (0 : Int) ≤ k := by omega
                  obtain ⟨q4, hq4⟩ : ∃ q4, k / 4 = q4 := ⟨_, rfl⟩
                  obtain ⟨m4, hm4⟩ : ∃ m4, k % 4 = m4 := ⟨_, rfl⟩
                  have eq4 : (k : Int) / 4 = q4 := by omega
                  have em4 : (k : Int) % 4 = m4 := by omega
                  have hq8 : (q4 : Int) < 8 := by omega
                  have hm8 : (m4 : Int) < 4 := by omega
                  have hm0 : (0 : Int) ≤ m4 := by omega
                  have hq0 : (0 : Int) ≤ q4 := by omega
                  have c6 := YA h6 (i := q4) (by rw [HFl.out]; omega)
                  obtain ⟨X, hX⟩ : ∃ X, F.getD q4 0 = X := ⟨_, rfl⟩
                  rw [hX] at c6
                  have f7 : wr.frozen? ⟨g7, k, none⟩ = false := Z6 h7
                  have c7 : ∃ y, wr.cell? ⟨g7, k, none⟩ = some y := ⟨_, Z4 h7 (by rw [List.getElem?_toArray, bv_get _ k (by simp [Xh]; omega)])⟩
                  obtain ⟨y, c7⟩ := c7
                  obtain ⟨x, hx, hxe⟩ := out_byte X (24 - 8 * m4)
                  have hn := Wq F k
                  rw [hq4, hm4, hX, ← hxe] at hn
                  have HS := Lib.hid (Vg F k hlt x hn)
                  have H2 := Lib.hid h2
                  have H6 := Lib.hid h6
                  have H7 := Lib.hid h7
                  clear h2 h6 h7 hn hxe hX hq4 hm4
                  go_wp2_with fail
                  go_roundw
                  case rel =>
                    refine ⟨k + 1, by omega, by go_num, hbw.setCell b7 _, ?_, ?_, ?_⟩
                    · rw [Below.heap_setCell _ _ _ _ n27]; exact H2.out
                    · rw [Below.heap_setCell _ _ _ _ n67]; exact H6.out
                    · rw [bv_setCell H7.out, HS.out]
                  case measure => simp [intOf]; omega
                · obtain rfl : k = 32 := by omega
                  obtain ⟨S, hS⟩ : ∃ S, outB F 32 = S := ⟨_, rfl⟩
                  have hSl : S.length = 32 := by rw [← hS]; exact Xh F 32
                  rw [hS] at hsha h7
                  have h7 : wr.heap[g7]? = some (.cells (bv S).toArray 29 (0, 0)) := by rw [h7]; simp
                  have IH := Lib.hid (infoH S hSl)
                  have SH := Lib.hid (sizeH z32 S ZL hSl)
                  have H2 := Lib.hid h2
                  have H7 := Lib.hid h7
                  clear h2 h6 h7 hS hSl
                  go_wp2_with (first
                    | (refine wpList_load_row rfl 29 _ rfl g7 rfl 29 (bv S).toArray (0, 0) _ H7.out hashUnder rfl IH.out ?_)
                    | (refine wpList_store_row rfl 29 _ _ rfl g2 (bv S).toArray rfl rfl 29 (bv z32).toArray H2.out IH.out SH.out (bv_one' _) ?_))
                  exact bodyPost_ret (v := .agg (bv S).toArray) (results_cell_row (p := 2) (ty := 29) rfl _ _ g2 29 (bv S).toArray (0, 0) _ rfl (ZQ H2.out) hashUnder rfl IH.out) rfl ⟨by rw [hsha.out], ZY hbw b2 _⟩
end Go.Proofs.Ytkncomkncfcecaa
