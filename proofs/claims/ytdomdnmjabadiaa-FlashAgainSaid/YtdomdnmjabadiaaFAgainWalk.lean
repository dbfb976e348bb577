/- FlashAgain: the walk. -/
import Derived.Test.YtdomdnmjabadiaaAgainPlain
namespace Go.Proofs.Ytdomdnmjabadiaa
open Go.RowKit

theorem grown_two (w : World) (ga gb i j : Nat) (u v : Value) : True := trivial
theorem zeros16 : (#[.int .u8 0, .int .u8 0, .int .u8 0, .int .u8 0, .int .u8 0, .int .u8 0, .int .u8 0, .int .u8 0, .int .u8 0, .int .u8 0, .int .u8 0, .int .u8 0, .int .u8 0, .int .u8 0, .int .u8 0, .int .u8 0] : Array Value) = (bv (List.replicate 16 0)).toArray := rfl

set_option maxRecDepth 100000 in
set_option maxHeartbeats 8000000 in
theorem flashAgain_walk (A : Option Addr) (n c : Nat) (ls : List (List UInt8)) (w : World) (hA : Ps w A n ls) (hc0 : n ≤ c) (hc2 : c ≤ 9223372036854775807) :
    Calls Try.prog 4 #[.slice A n c] w fun e w' => e = .returned (.bool true) ∧ Below w.heap.size w w' := by
  go_enter Try.func4, Try.ntmps4
  go_upto_region 5 with (first
    | (go_at_call 10; refine Calls.mono (known_any _) ?_; rintro e w1 ⟨rfl, hb1⟩)
    | (go_at_call 12; refine Calls.mono (new_any _) ?_; rintro r w2 ⟨rfl, hf2, hb2⟩))
  have hb2w := below_two hb1 hb2
  have hgw : w.heap.size ≤ w1.heap.size := hb1.size
  generalize w1.heap.size = g at hf2 hgw ⊢
  have hglt := hf2.lt
  have hgaw : w.heap.size ≤ w2.heap.size := hb2w.size
  have hga0 := heap_alloc_new w2 (.cells #[.int .u8 0, .int .u8 0, .int .u8 0, .int .u8 0, .int .u8 0, .int .u8 0, .int .u8 0, .int .u8 0, .int .u8 0, .int .u8 0, .int .u8 0, .int .u8 0, .int .u8 0, .int .u8 0, .int .u8 0, .int .u8 0] 32)
  have hf3 := hf2.below ((Below.refl w2.heap.size w2).alloc (Nat.le_refl _) (.cells #[.int .u8 0, .int .u8 0, .int .u8 0, .int .u8 0, .int .u8 0, .int .u8 0, .int .u8 0, .int .u8 0, .int .u8 0, .int .u8 0, .int .u8 0, .int .u8 0, .int .u8 0, .int .u8 0, .int .u8 0, .int .u8 0] 32))
  have hb3w := hb2w.alloc hb2w.size (.cells #[.int .u8 0, .int .u8 0, .int .u8 0, .int .u8 0, .int .u8 0, .int .u8 0, .int .u8 0, .int .u8 0, .int .u8 0, .int .u8 0, .int .u8 0, .int .u8 0, .int .u8 0, .int .u8 0, .int .u8 0, .int .u8 0] 32)
  rw [zeros16] at hga0 hf3 hb3w
  have hgga : g ≠ w2.heap.size := Nat.ne_of_lt hglt
  have hgal : w2.heap.size < (w2.alloc (.cells (bv (List.replicate 16 0)).toArray 32)).heap.size := by simp
  show Code.wp _ _ _ _ (w2.alloc (.cells #[.int .u8 0, .int .u8 0, .int .u8 0, .int .u8 0, .int .u8 0, .int .u8 0, .int .u8 0, .int .u8 0, .int .u8 0, .int .u8 0, .int .u8 0, .int .u8 0, .int .u8 0, .int .u8 0, .int .u8 0, .int .u8 0] 32))
  rw [zeros16]
  generalize w2.alloc (.cells (bv (List.replicate 16 0)).toArray 32) = w3 at hga0 hf3 hb3w hgal ⊢
  generalize w2.heap.size = ga at hga0 hgga hgaw hgal ⊢
  clear hf2 hb1 hb2 hb2w hglt
  go_wp2_with fail
  go_loopw [5] (fun i wr => ∃ (k : Nat), k ≤ 16 ∧ i = .int .i64 k ∧ wr.heap[ga]? = some (.cells (bv (List.replicate k 255 ++ List.replicate (16 - k) 0)).toArray 32 (0, 0)) ∧ Below w.heap.size w wr ∧ FS (fun _ => False) wr g newF) (fun i _ => 16 - (intOf i).toNat)
  case atStart => exact ⟨0, by omega, rfl, hga0, hb3w, hf3⟩
  case round =>
    clear hga0 hb3w hf3
    obtain ⟨k, hk, rfl, hga, hbr, hfr⟩ := hrel
    by_cases hlt : k < 16
    · have hk1 : (k : Int) < 16 := by omega
      have hk0 : (0 : Int) ≤ k := by omega
      have hl : (List.replicate k (255 : UInt8) ++ List.replicate (16 - k) 0)[k]? = some 0 := by
        rw [List.getElem?_append_right (by simp), List.length_replicate, Nat.sub_self, List.getElem?_replicate, if_pos (by omega)]
      have c0 : wr.cell? ⟨ga, k, none⟩ = some (.int .u8 ((0 : UInt8).toNat : Int)) := cell_of_block hga (bv_at hl)
      have f0 : wr.frozen? ⟨ga, k, none⟩ = false := free_of_block hga
      have hg2 := block_setCell (i := k) (.int .u8 255) hga
      have e255 : (Value.int .u8 255) = .int .u8 ((255 : UInt8).toNat : Int) := rfl
      rw [e255, bv_set] at hg2
      have hset : (List.replicate k (255 : UInt8) ++ List.replicate (16 - k) 0).set k 255 = List.replicate (k + 1) 255 ++ List.replicate (16 - (k + 1)) 0 := by
        rw [List.set_append_right _ _ (by simp)]
        simp only [List.length_replicate, Nat.sub_self]
        rw [show 16 - k = (16 - (k + 1)) + 1 by omega, List.replicate_succ, List.set_cons_zero, List.replicate_succ', List.append_assoc]
        rfl
      rw [hset] at hg2
      have HG2 := Lib.hid hg2
      clear hset hg2 hl e255
      have hfr2 := hfr.other (grown_set wr ga k (.int .u8 255)) hgga (fun _ h => h.elim)
      go_wp2_with fail
      go_roundw
      case rel => exact ⟨k + 1, by omega, by go_num, HG2.out, hbr.setCell (p := ⟨ga, k, none⟩) hgaw _, hfr2⟩
      case measure => simp [intOf]; omega
    · obtain rfl : k = 16 := by omega
      rw [show ((16 : Nat) : Int) = 16 from rfl]
      rw [Nat.sub_self, List.replicate_zero, List.append_nil] at hga
      have HA0 := Lib.hid ainv_start
      generalize List.replicate 16 (255 : UInt8) = L0 at hga HA0
      go_wp2_with fail
      go_loopw [6] (fun iv wr => ∃ (i : Nat) (f : FlashSt) (L : List UInt8), i ≤ n ∧ i ≤ 20 ∧ iv = .int .i64 i ∧ Below w.heap.size w wr ∧ FS (fun _ => False) wr g f ∧ wr.heap[ga]? = some (.cells (bv L).toArray 32 (0, 0)) ∧ Hid (AInv L i f)) (fun iv _ => 20 - (intOf iv).toNat)
      case atStart => exact ⟨0, newF, L0, by omega, by omega, rfl, hbr, hfr, hga, HA0⟩
      case round =>
        clear hga HA0 hbr hfr hlt hk
        obtain ⟨i, f, L, hin, hi20, rfl, hbr, hfr, hga, hinv⟩ := hrel
        by_cases hlt : i < n ∧ i < 20
        · obtain ⟨hi1, hi2⟩ := hlt
          have hi1' : (i : Int) < n := by omega
          have hi2' : (i : Int) < 20 := by omega
          have hi0' : (0 : Int) ≤ i := by omega
          obtain ⟨b, o, B, m, d, bs, rfl, cb, hBb, hmd, hd9, _, hli⟩ := hA.next hi1
          have hbl := Lib.hid hBb.len
          have cb1 := Keeps.of_below hbr _ _ cb
          by_cases h16 : 16 < m
          · have h16' : (16 : Int) < m := by omega
            go_wp2_with fail
            go_ret
            exact ⟨rfl, hbr⟩
          · have h16' : ¬ (16 : Int) < m := by omega
            have hb16 : Hid (bs.length ≤ 16) := by show bs.length ≤ 16; rw [hbl.out]; omega
            have hal := Lib.hid (length_andL L bs hinv.out.row hb16.out)
            obtain ⟨f', hp, hinv', hread⟩ := ainv_step hinv.out hi2 bs hb16.out
            have HP := Lib.hid hp
            have HI := Lib.hid hinv'
            have HR := Lib.hid hread
            clear hp hinv' hread
            go_upto_region 15 with fail
            have hgb0 := heap_alloc_new wr (.cells #[.int .u8 0, .int .u8 0, .int .u8 0, .int .u8 0, .int .u8 0, .int .u8 0, .int .u8 0, .int .u8 0, .int .u8 0, .int .u8 0, .int .u8 0, .int .u8 0, .int .u8 0, .int .u8 0, .int .u8 0, .int .u8 0] 32)
            have hab : ga ≠ wr.heap.size := Nat.ne_of_lt (Array.getElem?_eq_some_iff.1 hga).1
            have hggb : g ≠ wr.heap.size := Nat.ne_of_lt hfr.lt
            have hgbw : w.heap.size ≤ wr.heap.size := hbr.size
            have hb0 : Below wr.heap.size wr (wr.alloc (.cells #[.int .u8 0, .int .u8 0, .int .u8 0, .int .u8 0, .int .u8 0, .int .u8 0, .int .u8 0, .int .u8 0, .int .u8 0, .int .u8 0, .int .u8 0, .int .u8 0, .int .u8 0, .int .u8 0, .int .u8 0, .int .u8 0] 32)) := (Below.refl _ _).alloc (Nat.le_refl _) _
            have hfr0 := hfr.below hb0
            have hbr0 := below_two hbr hb0
            have hga1 : (wr.alloc (.cells #[.int .u8 0, .int .u8 0, .int .u8 0, .int .u8 0, .int .u8 0, .int .u8 0, .int .u8 0, .int .u8 0, .int .u8 0, .int .u8 0, .int .u8 0, .int .u8 0, .int .u8 0, .int .u8 0, .int .u8 0, .int .u8 0] 32)).heap[ga]? = some (.cells (bv L).toArray 32 (0, 0)) := by rw [hb0.block ga (Array.getElem?_eq_some_iff.1 hga).1]; exact hga
            generalize wr.alloc (.cells #[.int .u8 0, .int .u8 0, .int .u8 0, .int .u8 0, .int .u8 0, .int .u8 0, .int .u8 0, .int .u8 0, .int .u8 0, .int .u8 0, .int .u8 0, .int .u8 0, .int .u8 0, .int .u8 0, .int .u8 0, .int .u8 0] 32) = w4 at hgb0 hfr0 hbr0 hga1 ⊢
            rw [zeros16] at hgb0
            generalize wr.heap.size = gb at hgb0 hab hggb hgbw ⊢
            clear hb0 hga hbr hfr cb1
            go_wp2_with fail
            go_loopw [8] (fun jv wr => ∃ (j : Nat), j ≤ 16 ∧ jv = .int .i64 j ∧ Below w.heap.size w wr ∧ FS (fun _ => False) wr g f ∧ wr.heap[ga]? = some (.cells (bv ((andL L bs).take j ++ L.drop j)).toArray 32 (0, 0)) ∧ wr.heap[gb]? = some (.cells (bv ((andL L bs).take j ++ List.replicate (16 - j) 0)).toArray 32 (0, 0))) (fun jv _ => 16 - (intOf jv).toNat)
            case atStart => exact ⟨0, by omega, rfl, hbr0, hfr0, hga1, hgb0⟩
            case round =>
              clear hbr0 hfr0 hga1 hgb0
              obtain ⟨j, hj, rfl, hbr3, hfr3, hga, hgb⟩ := hrel
              have cb3 := Keeps.of_below hbr3 _ _ cb
              by_cases hlt3 : j < 16
              · have hj1 : (j : Int) < 16 := by omega
                have hj0 : (0 : Int) ≤ j := by omega
                by_cases hjm : j < m
                · obtain ⟨bb, bo, rfl⟩ := hBb.some_ (by omega)
                  have hjm' : (j : Int) < m := by omega
                  obtain ⟨_, _, x, hBe, cx, _, hx⟩ := hBb.next (k := j) hjm
                  injection hBe with hBe
                  injection hBe with e1 e2
                  subst e1; subst e2
                  have cx := Keeps.of_below hbr3 _ _ cx
                  have hxv : (pad bs).getD j 0 = x := by rw [pad_at bs j hlt3 hb16.out, if_pos (by rw [hbl.out]; exact hjm), List.getD_eq_getElem?_getD, hx.out]; rfl
                  have hLl : ((andL L bs).take j ++ L.drop j).getD j 0 = L.getD j 0 := by
                    rw [List.getD_eq_getElem?_getD, List.getElem?_append_right (by rw [List.length_take, hal.out]; omega), List.length_take, hal.out, show j - min j 16 = 0 by omega, List.getElem?_drop, List.getD_eq_getElem?_getD]
                    rfl
                  have ca0 := cell_of_block (i := j) hga (bv_at (x := L.getD j 0) (by
                    rw [← hLl, List.getD_eq_getElem?_getD, List.getElem?_eq_getElem (by rw [List.length_append, List.length_take, List.length_drop, hal.out, hinv.out.row]; omega)]; rfl))
                  obtain ⟨lj, hlj⟩ : ∃ lj, L.getD j 0 = lj := ⟨_, rfl⟩
                  rw [hlj] at ca0
                  have hand : (andL L bs).getD j 0 = lj &&& x := by rw [andL_at L bs hinv.out.row hb16.out j hlt3, hlj, hxv]
                  obtain ⟨v, hv, hvv⟩ : ∃ v : UInt8, bits .and .u8 (lj.toNat : Int) (x.toNat : Int) = (v.toNat : Int) ∧ (andL L bs).getD j 0 = v := ⟨lj &&& x, u8n_and lj x, hand⟩
                  have fa0 : wr.frozen? ⟨ga, j, none⟩ = false := free_of_block hga
                  have fb0 : wr.frozen? ⟨gb, j, none⟩ = false := free_of_block hgb
                  have cb0 := cell_of_block (i := j) (u := .int .u8 ((0 : UInt8).toNat : Int)) hgb (bv_at (by
                    rw [List.getElem?_append_right (by rw [List.length_take, hal.out]; omega), List.length_take, hal.out, show j - min j 16 = 0 by omega, List.getElem?_replicate, if_pos (by omega)]))
                  have ha1 := block_setCell (i := j) (.int .u8 (v.toNat : Int)) hga
                  rw [bv_set, ← hvv, set_mid _ _ j (by rw [hal.out, hinv.out.row]) (by rw [hal.out]; exact hlt3)] at ha1
                  rw [hvv] at ha1
                  have hgb1 := block_setCell_far (.int .u8 (v.toNat : Int)) hgb (show gb ≠ (⟨ga, j, none⟩ : Addr).block from fun e => hab e.symm)
                  have hb1 := block_setCell (i := j) (.int .u8 (v.toNat : Int)) hgb1
                  have hsb : ((andL L bs).take j ++ List.replicate (16 - j) 0).set j v = (andL L bs).take (j + 1) ++ List.replicate (16 - (j + 1)) 0 := by
                    have := set_mid (andL L bs) (List.replicate 16 0) j (by rw [hal.out, List.length_replicate]) (by rw [hal.out]; exact hlt3)
                    rw [hvv, List.drop_replicate, List.drop_replicate] at this
                    exact this
                  rw [bv_set, hsb] at hb1
                  have ha2 := block_setCell_far (.int .u8 (v.toNat : Int)) ha1 (show ga ≠ (⟨gb, j, none⟩ : Addr).block from hab)
                  have HA2 := Lib.hid ha2
                  have HB1 := Lib.hid hb1
                  have hgr := grown_two wr ga gb j j (.int .u8 (v.toNat : Int)) (.int .u8 (v.toNat : Int))
                  have hfr2 := (hfr3.other (grown_set wr ga j (.int .u8 (v.toNat : Int))) hgga (fun _ h => h.elim)).other (grown_set _ gb j (.int .u8 (v.toNat : Int))) hggb (fun _ h => h.elim)
                  have hbr2 := (hbr3.setCell (p := ⟨ga, j, none⟩) hgaw (.int .u8 (v.toNat : Int))).setCell (p := ⟨gb, j, none⟩) hgbw (.int .u8 (v.toNat : Int))
                  clear hLl hlj hand hvv ha1 hgb1 hb1 hsb ha2 hga hgb hxv hgr
                  go_wp2_with fail
                  go_roundw
                  case rel => exact ⟨j + 1, by omega, by go_num, hbr2, hfr2, HA2.out, HB1.out⟩
                  case measure => simp [intOf]; omega
                · have hjm' : ¬ (j : Int) < m := by omega
                  have hxv : (pad bs).getD j 0 = 255 := by rw [pad_at bs j hlt3 hb16.out, if_neg (by rw [hbl.out]; exact hjm)]
                  have hLl : ((andL L bs).take j ++ L.drop j).getD j 0 = L.getD j 0 := by
                    rw [List.getD_eq_getElem?_getD, List.getElem?_append_right (by rw [List.length_take, hal.out]; omega), List.length_take, hal.out, show j - min j 16 = 0 by omega, List.getElem?_drop, List.getD_eq_getElem?_getD]
                    rfl
                  have ca0 := cell_of_block (i := j) hga (bv_at (x := L.getD j 0) (by
                    rw [← hLl, List.getD_eq_getElem?_getD, List.getElem?_eq_getElem (by rw [List.length_append, List.length_take, List.length_drop, hal.out, hinv.out.row]; omega)]; rfl))
                  obtain ⟨lj, hlj⟩ : ∃ lj, L.getD j 0 = lj := ⟨_, rfl⟩
                  rw [hlj] at ca0
                  have hand : (andL L bs).getD j 0 = lj &&& 255 := by rw [andL_at L bs hinv.out.row hb16.out j hlt3, hlj, hxv]
                  obtain ⟨v, hv, hvv⟩ : ∃ v : UInt8, bits .and .u8 (lj.toNat : Int) 255 = (v.toNat : Int) ∧ (andL L bs).getD j 0 = v := ⟨lj &&& 255, u8n_and lj 255, hand⟩
                  have fa0 : wr.frozen? ⟨ga, j, none⟩ = false := free_of_block hga
                  have fb0 : wr.frozen? ⟨gb, j, none⟩ = false := free_of_block hgb
                  have cb0 := cell_of_block (i := j) (u := .int .u8 ((0 : UInt8).toNat : Int)) hgb (bv_at (by
                    rw [List.getElem?_append_right (by rw [List.length_take, hal.out]; omega), List.length_take, hal.out, show j - min j 16 = 0 by omega, List.getElem?_replicate, if_pos (by omega)]))
                  have ha1 := block_setCell (i := j) (.int .u8 (v.toNat : Int)) hga
                  rw [bv_set, ← hvv, set_mid _ _ j (by rw [hal.out, hinv.out.row]) (by rw [hal.out]; exact hlt3)] at ha1
                  rw [hvv] at ha1
                  have hgb1 := block_setCell_far (.int .u8 (v.toNat : Int)) hgb (show gb ≠ (⟨ga, j, none⟩ : Addr).block from fun e => hab e.symm)
                  have hb1 := block_setCell (i := j) (.int .u8 (v.toNat : Int)) hgb1
                  have hsb : ((andL L bs).take j ++ List.replicate (16 - j) 0).set j v = (andL L bs).take (j + 1) ++ List.replicate (16 - (j + 1)) 0 := by
                    have := set_mid (andL L bs) (List.replicate 16 0) j (by rw [hal.out, List.length_replicate]) (by rw [hal.out]; exact hlt3)
                    rw [hvv, List.drop_replicate, List.drop_replicate] at this
                    exact this
                  rw [bv_set, hsb] at hb1
                  have ha2 := block_setCell_far (.int .u8 (v.toNat : Int)) ha1 (show ga ≠ (⟨gb, j, none⟩ : Addr).block from hab)
                  have HA2 := Lib.hid ha2
                  have HB1 := Lib.hid hb1
                  have hgr := grown_two wr ga gb j j (.int .u8 (v.toNat : Int)) (.int .u8 (v.toNat : Int))
                  have hfr2 := (hfr3.other (grown_set wr ga j (.int .u8 (v.toNat : Int))) hgga (fun _ h => h.elim)).other (grown_set _ gb j (.int .u8 (v.toNat : Int))) hggb (fun _ h => h.elim)
                  have hbr2 := (hbr3.setCell (p := ⟨ga, j, none⟩) hgaw (.int .u8 (v.toNat : Int))).setCell (p := ⟨gb, j, none⟩) hgbw (.int .u8 (v.toNat : Int))
                  clear hLl hlj hand hvv ha1 hgb1 hb1 hsb ha2 hga hgb hxv hgr
                  go_wp2_with fail
                  go_roundw
                  case rel => exact ⟨j + 1, by omega, by go_num, hbr2, hfr2, HA2.out, HB1.out⟩
                  case measure => simp [intOf]; omega
              · obtain rfl : j = 16 := by omega
                rw [Nat.sub_self, List.replicate_zero, List.append_nil, List.take_of_length_le (by rw [hal.out]; exact Nat.le_refl _)] at hgb
                rw [List.take_of_length_le (by rw [hal.out]; exact Nat.le_refl _), List.drop_of_length_le (by rw [hinv.out.row]; exact Nat.le_refl _), List.append_nil] at hga
                have hBp : Bs wr (some ⟨gb, 0, none⟩) 16 (andL L bs) := fresh_bs hgb hal.out
                have halt := (Array.getElem?_eq_some_iff.1 hga).1
                go_upto_region 25 with (go_at_call 13; refine Calls.mono (program_any (fun _ => False) g (fun _ h => h.elim) f 2 9 _ 16 16 (andL L bs) _ hfr3 hBp (by omega) (by omega)) ?_; rw [HP.out]; rintro r w5 ⟨rfl, hf5, hg5⟩; have hf5 : FS (fun _ => False) w5 g f' := hf5)
                have hb5 := below_grown hbr3 hg5 hbr3.size hgw
                have hga5 : w5.heap[ga]? = some (.cells (bv (andL L bs)).toArray 32 (0, 0)) := by rw [hg5.block ga halt (fun e => hgga (by injection e with e; exact e.symm))]; exact hga
                go_upto_region 26 with (go_at_call 14; refine Calls.mono (read_any (fun _ => False) g f' 2 _ hf5) ?_; rintro r w6 ⟨A6, n6, c6, rfl, hB6, hn6, hc6, hb6⟩; obtain rfl : n6 = 1024 := by { rw [← hB6.len]; exact read_len f' 2 (by omega) HI.out.len })
                have hb6w := below_two hb5 hb6
                have hf6 := hf5.below hb6
                have hga6 : w6.heap[ga]? = some (.cells (bv (andL L bs)).toArray 32 (0, 0)) := by rw [hb6.block ga (Array.getElem?_eq_some_iff.1 hga5).1]; exact hga5
                obtain ⟨rb, ro, rfl⟩ := hB6.some_ (by omega)
                clear hga hgb hBp hfr3 hf5 hg5 hb5 hga5 hb6 hbr3 cb3 hn6
                go_wp2_with fail
                go_loopw [11] (fun kv wr => ∃ (k : Nat), k ≤ 16 ∧ kv = .int .i64 k ∧ Below w6.heap.size w6 wr) (fun kv _ => 16 - (intOf kv).toNat)
                case atStart => exact ⟨0, by omega, rfl, Below.refl _ _⟩
                case round =>
                  obtain ⟨k, hk, rfl, hbk⟩ := hrel
                  by_cases hlk : k < 16
                  · have hk1 : (k : Int) < 16 := by omega
                    have hk0 : (0 : Int) ≤ k := by omega
                    have hrk := HR.out k hlk
                    obtain ⟨rx, hrx⟩ : ∃ rx, (andL L bs).getD k 0 = rx := ⟨_, rfl⟩
                    rw [hrx] at hrk
                    obtain ⟨_, _, hRe, cr⟩ := read_cell hB6 hrk
                    injection hRe with hRe
                    injection hRe with e1 e2
                    subst e1; subst e2
                    have ca := cell_of_block (i := k) hga6 (bv_at (x := rx) (by
                      rw [← hrx, List.getD_eq_getElem?_getD, List.getElem?_eq_getElem (by rw [hal.out]; exact hlk)]; rfl))
                    have cr := Keeps.of_below hbk _ _ cr
                    have ca := Keeps.of_below hbk _ _ ca
                    clear hrk hrx
                    go_upto_region 29 with fail
                    go_quiet (fail)
                    go_wp2_with fail
                    go_roundw
                    case rel => exact ⟨k + 1, by omega, by go_num, below_drewN' hbk _⟩
                    case measure => simp [intOf]; omega
                  · obtain rfl : k = 16 := by omega
                    have hga7 : wr.heap[ga]? = some (.cells (bv (andL L bs)).toArray 32 (0, 0)) := by rw [hbk.block ga (Array.getElem?_eq_some_iff.1 hga6).1]; exact hga6
                    have hf7 := hf6.below hbk
                    have hb7 := below_two hb6w hbk
                    clear hga6 hf6 hB6 hb6w
                    go_wp2_with fail
                    go_roundw
                    case rel => exact ⟨i + 1, f', andL L bs, by omega, by omega, by go_num, hb7, hf7, hga7, HI⟩
                    case measure => simp [intOf]; omega
        · have HDN := Lib.hid hinv.out.done
          have hcl := hfr
          obtain ⟨_, _, _, hcl, _⟩ := hcl
          have hc0' := fl_left hcl
          clear hcl
          by_cases hi1 : i < n
          · obtain rfl : i = 20 := by omega
            have hi1' : (20 : Int) < n := by omega
            have hnl : ¬ (n : Int) ≤ 20 := by omega
            have hmin : min (n : Int) 20 = 20 := by omega
            go_wp2_with (go_at_call 15; refine Calls.mono (ops_any _ g f _ hfr) ?_; rw [HDN.out]; rintro r _ ⟨rfl, rfl⟩)
            go_ret
            exact ⟨rfl, hbr⟩
          · obtain rfl : n = i := by omega
            have hnl : (n : Int) ≤ 20 := by omega
            have hmin : min (n : Int) 20 = n := by omega
            go_wp2_with (go_at_call 15; refine Calls.mono (ops_any _ g f _ hfr) ?_; rw [HDN.out]; rintro r _ ⟨rfl, rfl⟩)
            go_ret
            exact ⟨rfl, hbr⟩
theorem flashAgain_top (A : Option Addr) (n c : Nat) (ls : List (List UInt8)) (w : World) (hA : Ps w A n ls) (hc0 : n ≤ c) (hc2 : c ≤ 140737488351232) :
    Calls Try.prog 4 #[.slice A n c] w fun e w' => e = .returned (.bool true) ∧ Below w.heap.size w w' := flashAgain_walk A n c ls w hA hc0 (by omega)
end Go.Proofs.Ytdomdnmjabadiaa
