/- ShaHex: the walk. -/
import Derived.Test.YtkjfejkikejnhaaShaKnown
import Derived.Deep.DeepCutAuto
namespace Go.Proofs.Ytkjfejkikejnhaa
open Go.RowKit

theorem index_str (w : World) (S : List UInt8) (j : Nat) (hj : j < S.length) :
    (Instr.index 9 (.string ⟨S.toArray⟩) (.int .i64 (j : Int))).run Try.prog w = .ok (.int .u8 ((S.getD j 0).toNat : Int)) w := by
  have h : (⟨S.toArray⟩ : ByteArray)[j]? = some (S.getD j 0) := by
    have hs : j < (⟨S.toArray⟩ : ByteArray).size := by show j < S.toArray.size; simpa using hj
    rw [getElem?_pos (⟨S.toArray⟩ : ByteArray) j hs]
    show some (S.toArray[j]'(by simpa using hj)) = _
    rw [List.getD_eq_getElem?_getD, List.getElem?_eq_getElem hj]
    simp
  simp [Instr.index, asIntOf, run_underlying Try.underlying9, h]
theorem hexOf_get (l : List UInt8) : ∀ (i : Nat), i < l.length → (hexOf l).getD (2 * i) 0 = hexD (l.getD i 0 / 16) ∧ (hexOf l).getD (2 * i + 1) 0 = hexD (l.getD i 0 % 16) := by
  induction l with
  | nil => intro i h; simp at h
  | cons x l ih =>
    intro i hi
    cases i with
    | zero => exact ⟨rfl, rfl⟩
    | succ i =>
      have := ih i (by simpa using hi)
      rw [show 2 * (i + 1) = 2 * i + 1 + 1 by omega]
      simp only [hexOf, List.flatMap_cons, List.cons_append, List.nil_append, List.getD_cons_succ] at this ⊢
      exact this
theorem hexD_low (y : UInt8) (h : y.toNat < 10) : ((hexD y).toNat : Int) = 48 + (y.toNat : Int) := by
  rcases hex_16 y (by omega) with rfl | rfl | rfl | rfl | rfl | rfl | rfl | rfl | rfl | rfl | rfl | rfl | rfl | rfl | rfl | rfl <;> first | rfl | (exfalso; revert h; decide)
theorem hexD_high (y : UInt8) (h : 10 ≤ y.toNat) (h2 : y.toNat < 16) : ((hexD y).toNat : Int) = 87 + (y.toNat : Int) := by
  rcases hex_16 y (by omega) with rfl | rfl | rfl | rfl | rfl | rfl | rfl | rfl | rfl | rfl | rfl | rfl | rfl | rfl | rfl | rfl <;> first | rfl | (exfalso; revert h; decide)
def hexN (y1 y2 : UInt8) (k : Nat) : Nat := if k = 0 then 0 else if k = 1 then y1.toNat else 16 * y1.toNat + y2.toNat

set_option maxRecDepth 100000 in
set_option maxHeartbeats 4000000 in
theorem shaHex_top (h : List UInt8) (w : World) (hl : h.length = 32) :
    Calls Try.prog 6 #[.agg (bv h).toArray] w fun e w' => e = .returned (.bool true) ∧ Below w.heap.size w w' := by
  have HL := Lib.hid hl
  have IH := Lib.hid (infoH h hl)
  have h64 : (hexOf h).length = 64 := by rw [length_hexOf, hl]
  have HG := Lib.hid (hexOf_get h)
  obtain ⟨S, hS⟩ : ∃ S, hexOf h = S := ⟨_, rfl⟩
  rw [hS] at h64 HG
  have HS := Lib.hid hS
  have H64 := Lib.hid h64
  clear hl hS
  go_enter Try.func6, Try.ntmps6
  go_upto_region 1 with fail
  obtain ⟨w1, hw1⟩ : ∃ w1, w1 = w.alloc (.cells (bv h).toArray 24) := ⟨_, rfl⟩
  have hb1 : Below w.heap.size w w1 := by rw [hw1]; exact (Below.refl _ _).alloc (Nat.le_refl _) _
  have h1 : w1.heap[w.heap.size]? = some (.cells (bv h).toArray 24 (0, 0)) := by rw [hw1]; exact heap_alloc_new _ _
  rw [← hw1]
  clear hw1
  have l1 : w.heap.size < w1.heap.size := (Array.getElem?_eq_some_iff.1 h1).1
  obtain ⟨g1, hg1⟩ : ∃ g, w.heap.size = g := ⟨_, rfl⟩
  rw [hg1] at h1 l1 ⊢
  clear hg1
  have H1 := Lib.hid h1
  clear h1
  go_upto_region 3 with (go_at_call 8; refine Calls.mono (known_any _) ?_; rintro e w2 ⟨rfl, hb2⟩)
  have H1 : Hid (w2.heap[g1]? = some (.cells (bv h).toArray 24 (0, 0))) := by show _ = _; rw [hb2.block g1 l1]; exact H1.out
  have hb := below_two hb1 hb2
  have l1 : g1 < w2.heap.size := Nat.lt_of_lt_of_le l1 hb2.size
  clear hb1 hb2
  have hhex := shaHex_any h HL.out w2
  rw [HS.out] at hhex
  have HH := Lib.hid hhex
  clear hhex
  go_upto_region 6 with (first
    | (refine wpList_load_row rfl 24 (.tmp 1) rfl g1 rfl 24 (bv h).toArray (0, 0) _ H1.out hashUnder rfl IH.out ?_)
    | (go_at_call 12; refine Calls.mono HH.out ?_; rintro e w3 ⟨rfl, hb3⟩))
  have H1 : Hid (w3.heap[g1]? = some (.cells (bv h).toArray 24 (0, 0))) := by show _ = _; rw [hb3.block g1 l1]; exact H1.out
  have hb := below_two hb hb3
  clear hb3 HH h64
  go_wp2_with fail
  go_loop [4] (fun i => ∃ k : Nat, k ≤ 32 ∧ i = .int .i64 k) (fun i => 32 - (intOf i).toNat)
  case atStart => exact ⟨0, by omega, rfl⟩
  case round =>
    obtain ⟨i, hi, rfl⟩ := hrel
    by_cases hlt : i < 32
    · have hk1 : (i : Int) < 32 := by omega
      have hk0 : (0 : Int) ≤ i := by omega
      obtain ⟨x, hx⟩ : ∃ x, h.getD i 0 = x := ⟨_, rfl⟩
      have hc : w3.cell? ⟨g1, i, none⟩ = some (.int .u8 (x.toNat : Int)) := cell_of_block H1.out (by rw [List.getElem?_toArray, bv_get _ i (by rw [HL.out]; exact hlt), ← hx, List.getD_eq_getElem?_getD, List.getElem?_eq_getElem (by rw [HL.out]; exact hlt)]; rfl)
      have hg := HG.out i (by rw [HL.out]; exact hlt)
      rw [hx] at hg
      obtain ⟨y1, y2, HY1, HY2, b1, b2, E1, E2⟩ := hex_div x
      rw [← E1.out, ← E2.out] at hg
      have HG1 := Lib.hid hg.1
      have HG2 := Lib.hid hg.2
      have hxn : x.toNat = 16 * y1.toNat + y2.toNat := by have := HY1.out; have := HY2.out; omega
      have HXN := Lib.hid hxn
      clear hx hg hxn
      go_wp2_with fail
      go_loop [5, 6] (fun n k => ∃ j : Nat, j ≤ 2 ∧ k = .int .i64 j ∧ n = .int .i64 (hexN y1 y2 j : Nat)) (fun _ k => 2 - (intOf k).toNat)
      case atStart => exact ⟨0, by omega, rfl, rfl⟩
      case round =>
        obtain ⟨j, hj, rfl, rfl⟩ := hrel
        by_cases hlt2 : j < 2
        · have hj1 : (j : Int) < 2 := by omega
          have hj0 : (0 : Int) ≤ j := by omega
          have e1 : IntKind.i64.wrap (2 * (i : Int)) = 2 * i := IntWalk.i64_in _ (by omega)
          have hN : ∃ (m : Nat) (y : UInt8), hexN y1 y2 j = m ∧ m < 16 ∧ y.toNat < 16 ∧ S.getD (2 * i + j) 0 = hexD y ∧ hexN y1 y2 (j + 1) = 16 * m + y.toNat := by
            match j, hlt2 with
            | 0, _ => exact ⟨0, y1, rfl, by omega, b1, HG1.out, by simp [hexN]⟩
            | 1, _ => exact ⟨y1.toNat, y2, rfl, b1, b2, HG2.out, by simp [hexN]⟩
          obtain ⟨m, y, hm, hm16, hy16, hSy, hnx⟩ := hN
          rw [hm]
          have hidx := fun W => index_str W S (2 * i + j) (by rw [H64.out]; omega)
          rw [hSy] at hidx
          obtain ⟨s, hs⟩ : ∃ s, 2 * i + j = s := ⟨_, rfl⟩
          have es : (2 : Int) * i + j = s := by omega
          have es' : IntKind.i64.wrap ((2 : Int) * i + j) = s := by rw [es]; exact IntWalk.i64_in _ (by omega)
          rw [hs] at hidx
          have HNX := Lib.hid hnx
          have hmI : (m : Int) < 16 := by omega
          have em : IntKind.i64.wrap (16 * (m : Int)) = 16 * m := IntWalk.i64_in _ (by omega)
          clear hm hSy hs hnx
          by_cases h10 : y.toNat < 10
          · have hv := hexD_low y h10
            obtain ⟨c, hcE⟩ : ∃ c : Int, ((hexD y).toNat : Int) = c := ⟨_, rfl⟩
            rw [hcE] at hidx hv
            have c1 : 48 ≤ c := by omega
            have c2 : c ≤ 57 := by omega
            have ec : IntKind.u8.wrap (c - 48) = c - 48 := by show (c - 48) % 256 = _; omega
            have ec' : (c - 48) % 256 = c - 48 := by omega
            have ew : IntKind.i64.wrap (c - 48) = c - 48 := IntWalk.i64_in _ (by omega)
            have HV := Lib.hid hv
            clear hv hcE
            go_wp2_with fail
            all_goals
              go_round
              case rel => exact ⟨j + 1, by omega, by go_num, by rw [HNX.out]; have := HV.out; congr 1; omega⟩
              case measure => simp [intOf]; omega
          · have hv := hexD_high y (by omega) hy16
            obtain ⟨c, hcE⟩ : ∃ c : Int, ((hexD y).toNat : Int) = c := ⟨_, rfl⟩
            rw [hcE] at hidx hv
            have c1 : 97 ≤ c := by omega
            have c0 : ¬ c ≤ 57 := by omega
            have c48 : 48 ≤ c := by omega
            have c2 : c ≤ 102 := by omega
            have ec : IntKind.u8.wrap (c - 97) = c - 97 := by show (c - 97) % 256 = _; omega
            have ec' : (c - 97) % 256 = c - 97 := by omega
            have ew : IntKind.i64.wrap (c - 97) = c - 97 := IntWalk.i64_in _ (by omega)
            have HV := Lib.hid hv
            clear hv hcE
            go_wp2_with fail
            all_goals
              go_round
              case rel => exact ⟨j + 1, by omega, by go_num, by rw [HNX.out]; have := HV.out; congr 1; omega⟩
              case measure => simp [intOf]; omega
        · obtain rfl : j = 2 := by omega
          have hn2 : hexN y1 y2 2 = x.toNat := by rw [HXN.out]; rfl
          rw [hn2]
          have hx8 := x.toNat_lt
          have hq : ((x.toNat : Int) != (x.toNat : Int)) = false := by simp
          clear hn2
          go_wp2_with fail
          go_round
          case rel => exact ⟨i + 1, by omega, by go_num⟩
          case measure => simp [intOf]; omega
    · go_wp2_with fail
      go_ret
      exact ⟨rfl, hb⟩
end Go.Proofs.Ytkjfejkikejnhaa
