/- A sum's digits. -/
import Derived.Test.YtkjfejkikejnhaaShaSum
import Derived.Stop.BytesEq
namespace Go.Proofs.Ytkjfejkikejnhaa
open Go.RowKit

def hexD (n : UInt8) : UInt8 := if n < 10 then 48 + n else 87 + n
def hexOf (l : List UInt8) : List UInt8 := l.flatMap fun x => [hexD (x / 16), hexD (x % 16)]
theorem length_hexOf (l : List UInt8) : (hexOf l).length = 2 * l.length := by
  induction l with
  | nil => rfl
  | cons x l ih => simp only [hexOf, List.flatMap_cons, List.length_append, List.length_cons, List.length_nil] at ih ⊢; omega
theorem hexOf_snoc (l : List UInt8) (x : UInt8) : hexOf (l ++ [x]) = hexOf l ++ [hexD (x / 16), hexD (x % 16)] := by simp [hexOf]
theorem hexOf_zero (n : Nat) : hexOf (List.replicate n 0) = List.replicate (2 * n) 48 := by
  induction n with
  | zero => rfl
  | succ n ih =>
    rw [List.replicate_succ, show 2 * (n + 1) = 2 * n + 1 + 1 by omega, List.replicate_succ, List.replicate_succ, ← ih]
    rfl
theorem hex_16 (y : UInt8) (h : y.toNat < 16) : y = 0 ∨ y = 1 ∨ y = 2 ∨ y = 3 ∨ y = 4 ∨ y = 5 ∨ y = 6 ∨ y = 7 ∨ y = 8 ∨ y = 9 ∨ y = 10 ∨ y = 11 ∨ y = 12 ∨ y = 13 ∨ y = 14 ∨ y = 15 := by
  have e : y = UInt8.ofNat y.toNat := (UInt8.ofNat_toNat).symm
  generalize y.toNat = n at h e
  have : n = 0 ∨ n = 1 ∨ n = 2 ∨ n = 3 ∨ n = 4 ∨ n = 5 ∨ n = 6 ∨ n = 7 ∨ n = 8 ∨ n = 9 ∨ n = 10 ∨ n = 11 ∨ n = 12 ∨ n = 13 ∨ n = 14 ∨ n = 15 := by omega
  rcases this with rfl | rfl | rfl | rfl | rfl | rfl | rfl | rfl | rfl | rfl | rfl | rfl | rfl | rfl | rfl | rfl <;> simp [e]
theorem hex_index (w : World) (y : UInt8) (h : y.toNat < 16) :
    (Instr.index 9 (.string ⟨#[48, 49, 50, 51, 52, 53, 54, 55, 56, 57, 97, 98, 99, 100, 101, 102]⟩) (.int .u8 (y.toNat : Int))).run Try.prog w = .ok (.int .u8 ((hexD y).toNat : Int)) w := by
  rcases hex_16 y h with rfl | rfl | rfl | rfl | rfl | rfl | rfl | rfl | rfl | rfl | rfl | rfl | rfl | rfl | rfl | rfl <;> kernel_rfl
theorem eqH (w : World) (xs ys : List UInt8) (hx : xs.length = 32) (hy : ys.length = 32) :
    (Op.equalIn 10000 24 (.agg (bv xs).toArray) (.agg (bv ys).toArray)).run Try.prog w = .ok (xs == ys) w :=
  run_equalIn_bytes w 9998 24 5 32 hashUnder Try.underlying5 (fun _ => rfl) xs ys hx hy
theorem index_hash (w : World) (h : List UInt8) (hl : h.length = 32) (k : Nat) (hk : k < 32) :
    (Instr.index 24 (.agg (bv h).toArray) (.int .i64 (k : Int))).run Try.prog w = .ok (.int .u8 ((h.getD k 0).toNat : Int)) w := by
  have hs : ∀ w, (sizeOf 5).run Try.prog w = .ok 1 w := fun _ => rfl
  have hp : (part 5 (bv h).toArray k).run Try.prog w = .ok (.int .u8 ((h.getD k 0).toNat : Int)) w := by
    simp [part, isAgg, run_underlying Try.underlying5, bv, List.getElem?_eq_getElem (show k < h.length by omega)]
  simp [Instr.index, asIntOf, run_underlying hashUnder, hs, hp, hk]
theorem hex_div (x : UInt8) : ∃ y1 y2 : UInt8, Hid ((x.toNat : Int) / 16 = (y1.toNat : Int)) ∧ Hid ((x.toNat : Int) % 16 = (y2.toNat : Int)) ∧ y1.toNat < 16 ∧ y2.toNat < 16 ∧ Hid (y1 = x / 16) ∧ Hid (y2 = x % 16) := by
  have h := x.toNat_lt
  refine ⟨x / 16, x % 16, ?_, ?_, ?_, ?_, rfl, rfl⟩
  · show _ = _
    rw [UInt8.toNat_div]
    rfl
  · show _ = _
    rw [UInt8.toNat_mod]
    rfl
  · rw [UInt8.toNat_div]
    show x.toNat / 16 < 16
    omega
  · rw [UInt8.toNat_mod]
    exact Nat.mod_lt _ (by decide)

def zb64 : List UInt8 := List.replicate 64 0
theorem make64 (W : World) : (Instr.makeSlice 26 (.int .i64 0) (.int .i64 64)).run Try.prog W = .ok (.slice (some ⟨W.heap.size, 0, none⟩) 0 64) (W.alloc (.cells (bv zb64).toArray 5)) := by
  obtain ⟨i0, hi0, hz0, hz1, hz2⟩ := info_parts byteInfo
  have hr := run_make (P := Try.prog) W 26 5 i0 (.int .u8 0) Try.underlying26 hi0 hz0 .i64 .i64 0 64 (by omega) (by omega) (by rw [hz2]; omega) (by omega)
  simp only [hz1, Nat.mul_one, Value.cells] at hr
  rw [hr]
  congr 3
  apply Array.toList_inj.1
  rw [show (64 : Int).toNat = 64 from rfl, toList_madeCells_one]
  rfl
theorem hexZero_ok : ((Try.prog.built 24 []).map fun a => chkB z32 a.toList) = some true := by kernel_rfl
theorem hexZero_eq : Try.prog.built 24 [] = some (bv z32).toArray := by
  have h := hexZero_ok
  cases hb : Try.prog.built 24 [] with
  | none => rw [hb] at h; cases h
  | some a =>
    rw [hb] at h
    simp only [Option.map_some, Option.some.injEq] at h
    rw [chkB_arr z32 a h]
set_option maxRecDepth 100000 in
set_option maxHeartbeats 1000000 in
theorem shaHex_any (h : List UInt8) (hl : h.length = 32) (w : World) :
    Calls Try.prog 12 #[.agg (bv h).toArray] w fun e w' => e = .returned (.string ⟨(hexOf h).toArray⟩) ∧ Below w.heap.size w w' := by
  have HL := Lib.hid hl
  have hm := make64
  have he := fun W => eqH W h z32 hl z32_len
  clear hl
  go_enter Try.func12, Try.ntmps12
  go_upto_region 2 with fail
  obtain ⟨w1, hw1⟩ : ∃ w1, w1 = (w.alloc (.cells (bv h).toArray 24)).alloc (.cells (bv zb64).toArray 5) := ⟨_, rfl⟩
  have hb1 : Below w.heap.size w w1 := by rw [hw1]; exact ((Below.refl _ _).alloc (Nat.le_refl _) _).alloc (by simp) _
  have h1 : w1.heap[w.heap.size]? = some (.cells (bv h).toArray 24 (0, 0)) := by rw [hw1]; exact (two_new _ _ _).1
  have hown1 : w1.ownsRow w.heap.size 5 1 (.slice (some ⟨w.heap.size + 1, 0, none⟩) 0 64) 0 [] := by
    rw [hw1]
    have := World.ownsRow_made (base := w.heap.size) (e := 5) (size := 1) (w.alloc (.cells (bv h).toArray 24)) (bv zb64).toArray 64 (by simp) (by simp [maxLen]) (by rw [size_bv]; rfl)
    simpa using this
  rw [← hw1]
  clear hw1 hm
  have H1 := Lib.hid h1
  have IH := Lib.hid (infoH h HL.out)
  obtain ⟨v1, hv1⟩ : ∃ v, (Value.slice (some ⟨w.heap.size + 1, 0, none⟩) 0 64) = v := ⟨_, rfl⟩
  rw [hv1] at hown1 ⊢
  have s1 : w.heap.size < w1.heap.size := (Array.getElem?_eq_some_iff.1 h1).1
  clear hv1 h1
  by_cases hz : h = z32
  · have hq : (h == z32) = true := by rw [beq_iff_eq]; exact hz
    rw [hq] at he
    have HZ := Lib.hid hz
    clear hz hq
    go_wp2_with (first
      | (refine wpList_load_row rfl 24 (.tmp 1) rfl w.heap.size rfl 24 (bv h).toArray (0, 0) _ H1.out hashUnder rfl IH.out ?_)
      | (refine wpList_buildTo (o := ⟨some 8, _, _, _, _, _⟩) rfl 24 #[] rfl (bv z32).toArray (by simpa using hexZero_eq) ?_))
    clear he
    go_loopw [3, 10] (fun v i wr => ∃ k : Nat, k ≤ 64 ∧ i = .int .i64 k ∧ wr.ownsRow w.heap.size 5 1 v k (bv (List.replicate k 48)) ∧ Below w.heap.size w wr) (fun _ i _ => 64 - (intOf i).toNat)
    case atStart => exact ⟨0, by omega, rfl, hown1, hb1⟩
    case round =>
      clear hown1 hb1
      obtain ⟨k, hk, rfl, hown, hb⟩ := hrel
      have hsz := hb.size
      obtain ⟨A, c, rfl, o1, o2, o3, _⟩ := own_slice hown
      by_cases hlt : k < 64
      · have hk1 : (k : Int) < 64 := by omega
        have hk0 : (0 : Int) ≤ k := by omega
        go_wp2_with (at_builtin; refine appendB _ rfl (.tmp 12) (.tmp 13) rfl w.heap.size _ k (List.replicate k 48) rfl (hown.alloc _) _ 1 1 [48] rfl (lit8 wr 48) (by omega) (by simp; omega) ?_; intro v4 w4 hown4 hg4 hat4)
        go_roundw
        case rel =>
          refine ⟨k + 1, by omega, by go_num, ?_, below_append (hb.alloc hsz _) hg4 (hown.alloc _) (by simp; omega)⟩
          rw [List.replicate_succ']
          exact hown4
        case measure => simp [intOf]; omega
      · obtain rfl : k = 64 := by omega
        have hconv : ∀ W : World, Bs W A 64 (List.replicate 64 48) → (convert 26 9 (.slice A 64 c)).run Try.prog W = .ok (.string ⟨(List.replicate 64 48).toArray⟩) W := fun W h => convB h
        have hc := hconv wr o3
        obtain ⟨S, hS⟩ : ∃ S : List UInt8, S = List.replicate 64 48 := ⟨_, rfl⟩
        rw [← hS] at hc
        have HS := Lib.hid hS
        clear hconv hS
        go_wp2_with fail
        go_ret
        refine ⟨?_, hb⟩
        show Ending.returned (.string ⟨S.toArray⟩) = _
        rw [HS.out, HZ.out, show hexOf z32 = List.replicate 64 48 from hexOf_zero 32]
  · have hq : (h == z32) = false := by rw [beq_eq_false_iff_ne]; exact hz
    rw [hq] at he
    clear hz hq
    go_wp2_with (first
      | (refine wpList_load_row rfl 24 (.tmp 1) rfl w.heap.size rfl 24 (bv h).toArray (0, 0) _ H1.out hashUnder rfl IH.out ?_)
      | (refine wpList_buildTo (o := ⟨some 8, _, _, _, _, _⟩) rfl 24 #[] rfl (bv z32).toArray (by simpa using hexZero_eq) ?_))
    clear he
    have hown1 : w1.ownsRow w.heap.size 5 1 v1 0 (bv (hexOf (h.take 0))) := hown1
    go_loopw [3, 19] (fun v i wr => ∃ k : Nat, k ≤ 32 ∧ i = .int .i64 k ∧ wr.ownsRow w.heap.size 5 1 v (2 * k) (bv (hexOf (h.take k))) ∧ Below w.heap.size w wr) (fun _ i _ => 32 - (intOf i).toNat)
    case atStart => exact ⟨0, by omega, rfl, hown1, hb1⟩
    case round =>
      clear hown1 hb1
      obtain ⟨k, hk, rfl, hown, hb⟩ := hrel
      have hsz := hb.size
      obtain ⟨A, c, rfl, o1, o2, o3, _⟩ := own_slice hown
      by_cases hlt : k < 32
      · have hk1 : (k : Int) < 32 := by omega
        have hk0 : (0 : Int) ≤ k := by omega
        obtain ⟨x, hx⟩ : ∃ x, h.getD k 0 = x := ⟨_, rfl⟩
        have hidx := fun W => index_hash W h HL.out k hlt
        rw [hx] at hidx
        obtain ⟨y1, y2, HY1, HY2, b1, b2, E1, E2⟩ := hex_div x
        have HN : Hid (hexOf (h.take (k + 1)) = hexOf (h.take k) ++ [hexD y1, hexD y2]) := by
          show _ = _
          rw [List.take_succ_eq_append_getElem (by rw [HL.out]; exact hlt), hexOf_snoc, E1.out, E2.out, ← hx, List.getD_eq_getElem?_getD, List.getElem?_eq_getElem (by rw [HL.out]; exact hlt)]
          rfl
        have hk2 : c ≤ 9223372036854775807 := by simpa [maxLen] using o2
        clear hx
        go_upto_region 11 with fail
        clear hidx
        refine wp_region_fresh_tail 8 [Is (.slice A (2 * k) c), Is (.int .u8 (x.toNat : Int)), Is (.int .u8 (y1.toNat : Int)), Is (.int .u8 ((hexD y1).toNat : Int)), Is (.int .u8 (x.toNat : Int)), Is (.int .u8 (y2.toNat : Int)), Is (.int .u8 ((hexD y2).toNat : Int)), BsIs 2 [hexD y1, hexD y2]]
          [[(3, none)], [(5, none)], [(23, some 1)], [(24, some 2)], [(5, none)], [(26, some 4)], [(27, some 5)], [(25, some 3), (28, some 6)]]
          (by kernel_rfl) (by kernel_rfl) (by kernel_rfl) (by kernel_rfl)
          ⟨mono_is _, mono_is _, mono_is _, mono_is _, mono_is _, mono_is _, mono_is _, mono_bsIs _ _, trivial⟩ ?vc ?fin
        case vc =>
          refine ⟨?_, ?_, ?_, ?_, ?_, ?_, ?_, ?_, trivial⟩
          · exact vf_none rfl (f_mov (.inl rfl) fun A W _ h => h.1)
          · exact vf_none rfl (f_mov (.inl rfl) fun A W _ h => h.1)
          · refine vf_none rfl (f_run fun A' W hR h => ?_)
            obtain ⟨h23, _⟩ := h
            replace h23 : A'.tmps[23]?.getD undef = _ := h23
            refine ⟨_, W, ?_, Below.refl _ _, rfl⟩
            have h := HY1.out
            have hlt1 := y1.toNat_lt
            go_simp
            all_goals (show (y1.toNat : Int) % 256 = _; omega)
          · refine vf_none rfl (f_run fun A' W hR h => ?_)
            obtain ⟨h24, _⟩ := h
            replace h24 : A'.tmps[24]?.getD undef = _ := h24
            refine ⟨_, W, ?_, Below.refl _ _, rfl⟩
            have h := hex_index W y1 b1
            go_simp
          · exact vf_none rfl (f_mov (.inl rfl) fun A W _ h => h.1)
          · refine vf_none rfl (f_run fun A' W hR h => ?_)
            obtain ⟨h26, _⟩ := h
            replace h26 : A'.tmps[26]?.getD undef = _ := h26
            refine ⟨_, W, ?_, Below.refl _ _, rfl⟩
            have h := HY2.out
            go_simp
            all_goals (rw [Int.tmod_eq_emod_of_nonneg (by omega)]; exact HY2.out)
          · refine vf_none rfl (f_run fun A' W hR h => ?_)
            obtain ⟨h27, _⟩ := h
            replace h27 : A'.tmps[27]?.getD undef = _ := h27
            refine ⟨_, W, ?_, Below.refl _ _, rfl⟩
            have h := hex_index W y2 b2
            go_simp
          · refine vf_none rfl (f_run fun A' W hR h => ?_)
            obtain ⟨h25, h28, _⟩ := h
            replace h25 : A'.tmps[25]?.getD undef = _ := h25
            replace h28 : A'.tmps[28]?.getD undef = _ := h28
            refine ⟨.slice (some ⟨W.heap.size, 0, none⟩) 2 2, W.alloc (.cells #[.int .u8 ((hexD y1).toNat : Int), .int .u8 ((hexD y2).toNat : Int)] 5), ?_, (Below.refl _ _).alloc (Nat.le_refl _) _, _, _, rfl, Bs.lit 5 rfl [hexD y1, hexD y2] rfl rfl, by omega, by omega⟩
            go_simp
        case fin =>
          intro A' W hd hs hR he hr
          obtain ⟨e0, e1, e2, e3, e4, e5, e6, e7, _⟩ := he
          have hA' := act_after [22, 23, 24, 25, 26, 27, 28, 29] rfl hd hs hr
          clear hd hs hr
          obtain ⟨BB, cc, e7, hBB, hBB1, hBB2⟩ := e7
          replace e7 : A'.tmps[29]?.getD undef = _ := e7
          replace e0 : A'.tmps[22]?.getD undef = _ := e0
          replace e1 : A'.tmps[23]?.getD undef = _ := e1
          replace e2 : A'.tmps[24]?.getD undef = _ := e2
          replace e3 : A'.tmps[25]?.getD undef = _ := e3
          replace e4 : A'.tmps[26]?.getD undef = _ := e4
          replace e5 : A'.tmps[27]?.getD undef = _ := e5
          replace e6 : A'.tmps[28]?.getD undef = _ := e6
          simp only [frameAfter, List.contains_cons, List.contains_nil, Nat.reduceBEq, Bool.or_false, Bool.or_true, Bool.or_self, Bool.false_or, Bool.true_or, Bool.false_eq_true, if_true, if_false, Nat.reduceAdd, e0, e1, e2, e3, e4, e5, e6, e7] at hA'
          subst hA'
          clear e0 e1 e2 e3 e4 e5 e6 e7
          have hb2 := below_then hb hR hb.size
          have hown2 := own_below hown hR
          have sR := hR.size
          simp only [List.drop_succ_cons, List.drop_zero]
          go_wp2_with (at_builtin; refine appendB _ rfl (.tmp 22) (.tmp 29) rfl w.heap.size _ (2 * k) (hexOf (h.take k)) rfl hown2 BB 2 cc [hexD y1, hexD y2] rfl hBB (by omega) (by omega) ?_; intro v4 w4 hown4 hg4 hat4)
          go_roundw
          case rel =>
            refine ⟨k + 1, by omega, by go_num, ?_, below_append hb2 hg4 hown2 (by omega)⟩
            rw [HN.out, show 2 * (k + 1) = 2 * k + 2 by omega]
            exact hown4
          case measure => simp [intOf]; omega
      · obtain rfl : k = 32 := by omega
        have hall : h.take 32 = h := List.take_of_length_le (by rw [HL.out]; exact Nat.le_refl _)
        rw [hall] at o3
        have hc := convB (c := c) o3
        have HC := Lib.hid hall
        clear hall
        go_wp2_with fail
        go_ret
        exact ⟨rfl, hb⟩
end Go.Proofs.Ytkjfejkikejnhaa
