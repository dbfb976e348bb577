/- FlashBits: the walk. -/
import Derived.Test.YtdomdnmjabadiaaFlashKnown
namespace Go.Proofs.Ytdomdnmjabadiaa
open Go.RowKit

/-- what a page reads as behind both programs -/
def wantB (F : Bool) (a b : List UInt8) (q i : Nat) : UInt8 := if q * 16 ≤ i ∧ i < q * 16 + 16 then (if F = true then (pad b).getD (i - q * 16) 0 else (pad a).getD (i - q * 16) 0) else 255

set_option maxRecDepth 100000 in
theorem flashBits_none (A : Option Addr) (n c : Nat) (B : Option Addr) (m d : Nat) (s p : Int) (w : World) (hn : 16 < n ∨ 16 < m) (hn2 : n ≤ 9223372036854775807) (hm2 : m ≤ 9223372036854775807) :
    Calls Try.prog 3 #[.slice A n c, .slice B m d, .int .i64 s, .int .i64 p] w fun e w' => e = .returned (.bool true) ∧ Below w.heap.size w w' := by
  by_cases h : 16 < n
  all_goals
    have hm : 16 < n ∨ 16 < m := hn
    first
      | (have h3 : (16 : Int) < n := by omega)
      | (have h4 : (16 : Int) < m := by omega)
    go_enter Try.func3, Try.ntmps3
    go_wp2_with (go_at_call 10; refine Calls.mono (known_any _) ?_; rintro e w1 ⟨rfl, hb1⟩)
    go_ret
    exact ⟨rfl, hb1⟩

set_option maxRecDepth 100000 in
set_option maxHeartbeats 8000000 in
theorem flashBits_core (A : Option Addr) (n c : Nat) (a : List UInt8) (B : Option Addr) (m d : Nat) (b : List UInt8) (s p : Int) (w : World) (hA0 : Bs w A n a) (hc0 : n ≤ c) (hc2 : c ≤ 9223372036854775807) (hB0 : Bs w B m b) (hd0 : m ≤ d) (hd2 : d ≤ 9223372036854775807) (hn16 : n ≤ 16) (hm16 : m ≤ 16)
    (k q off : Nat) (hk : within s 6 = k) (hq : within p 64 = q) (hoff : off = k * 1024 + q * 16) (f1 f2 : FlashSt) (S1 : List UInt8) (hS1f : f1.S = S1) (F : Bool) (E : Int) (P1 : Hid (progF newF k q a = (0, f1))) (hF : Hid (fits b off S1 16 = F)) (P2 : Hid (progF f1 k q b = (E, f2))) (hE : Hid (E = if F = true then 0 else 13))
    (hS1 : Hid (∀ j, j < 16 → S1.getD (off + j) 0 = (pad a).getD j 0)) (hS2 : Hid (∀ i, i < 1024 → (readF f2 k)[i]? = some (wantB F a b q i))) (hrl : Hid ((readF f2 k).length = 1024)) :
    Calls Try.prog 3 #[.slice A n c, .slice B m d, .int .i64 s, .int .i64 p] w fun e w' => e = .returned (.bool true) ∧ Below w.heap.size w w' := by
  have hk6 := within_lt s 6 (by omega)
  have hq64 := within_lt p 64 (by omega)
  have hal := Lib.hid hA0.len
  have hbl := Lib.hid hB0.len
  have hn16' : (n : Int) ≤ 16 := by omega
  have hm16' : (m : Int) ≤ 16 := by omega
  have HW := Lib.hid hk
  have HV := Lib.hid hq
  rw [hk] at hk6
  rw [hq] at hq64
  clear hk hq hoff
  have hk6' : (k : Int) < 6 := by omega
  have hk0 : (0 : Int) ≤ k := by omega
  have hq6' : (q : Int) < 64 := by omega
  have hq0 : (0 : Int) ≤ q := by omega
  go_enter Try.func3, Try.ntmps3
  go_upto_region 7 with (first
    | (go_at_call 10; refine Calls.mono (known_any _) ?_; rintro e w1 ⟨rfl, hb1⟩)
    | (go_at_call 11; with_reducible refine Calls.mono (within_any s 6 _ _ rfl (by omega) (by omega)) ?_; rw [HW.out]; rintro r _ ⟨rfl, rfl⟩)
    | (go_at_call 11; with_reducible refine Calls.mono (within_any p 64 _ _ rfl (by omega) (by omega)) ?_; rw [HV.out]; rintro r _ ⟨rfl, rfl⟩)
    | (go_at_call 12; refine Calls.mono (new_any _) ?_; rintro r w2 ⟨rfl, hf2, hb2⟩))
  have hb2w := below_two hb1 hb2
  have hgw : w.heap.size ≤ w1.heap.size := hb1.size
  generalize w1.heap.size = g at hf2 hgw ⊢
  clear hb1 hb2
  go_upto_region 9 with (go_at_call 13; refine Calls.mono (program_any _ g (fun _ h => h.elim) newF k q A n c a _ hf2 (hA0.below hb2w) hc0 hc2) ?_; rw [P1.out]; rintro r w3 ⟨rfl, hf3, hg3⟩)
  have hf3 : FS (fun _ => False) w3 g f1 := hf3
  have hb3 := below_grown hb2w hg3 hb2w.size hgw
  go_upto_region 10 with (go_at_call 13; refine Calls.mono (program_any _ g (fun _ h => h.elim) f1 k q B m d b _ hf3 (hB0.below hb3) hd0 hd2) ?_; rw [P2.out]; rintro r w4 ⟨rfl, hf4, hg4⟩)
  have hf4 : FS (fun _ => False) w4 g f2 := hf4
  have hb4 := below_grown hb3 hg4 hb3.size hgw
  go_upto_region 11 with (go_at_call 14; refine Calls.mono (read_any _ g f2 k _ hf4) ?_; rintro r w5 ⟨A5, n5, c5, rfl, hB5, hn5, hc5, hb5⟩; obtain rfl : n5 = 1024 := by { rw [← hB5.len]; exact hrl.out })
  have hb5w := below_two hb4 hb5
  have hA := hA0.below hb5w
  have hB := hB0.below hb5w
  obtain ⟨rb, ro, rfl⟩ := hB5.some_ (by omega)
  clear hf2 hf3 hf4 hg3 hg4 hb3 hb4 hb5 hb2w hA0 hB0 hn5
  go_wp2_with fail
  go_loop [12, 13] (fun ft i => ∃ (j : Nat) (fb : Bool), j ≤ 16 ∧ i = .int .i64 j ∧ ft = .bool fb ∧ Hid (fits b off S1 j = fb)) (fun _ i => 16 - (intOf i).toNat)
  case atStart => exact ⟨0, true, by omega, rfl, rfl, rfl⟩
  case round =>
    obtain ⟨j, fb, hj, rfl, rfl, hft⟩ := hrel
    by_cases hlt : j < 16
    · have hj1 : (j : Int) < 16 := by omega
      have hj0 : (0 : Int) ≤ j := by omega
      cases fb
      · by_cases han0 : j < n
        · by_cases hbm0 : j < m
          · have han : (j : Int) < n := by omega
            obtain ⟨ab_x, ao_x, x_x, hAe_x, c_x, _, hx_x⟩ := hA.next (k := j) (by omega)
            subst hAe_x
            have hxv : Hid ((pad a).getD j 0 = x_x) := by
              show (pad a).getD j 0 = x_x
              rw [pad_at a j hlt (by have := hal.out; omega), if_pos (by have := hal.out; omega), List.getD_eq_getElem?_getD, hx_x.out]; rfl
            have hbm : (j : Int) < m := by omega
            obtain ⟨ab_y, ao_y, x_y, hAe_y, c_y, _, hx_y⟩ := hB.next (k := j) (by omega)
            subst hAe_y
            have hyv : Hid ((pad b).getD j 0 = x_y) := by
              show (pad b).getD j 0 = x_y
              rw [pad_at b j hlt (by have := hbl.out; omega), if_pos (by have := hbl.out; omega), List.getD_eq_getElem?_getD, hx_y.out]; rfl
            obtain ⟨z, hz, hzv⟩ : ∃ z : UInt8, bits .andNot .u8 ((x_y : UInt8).toNat : Int) ((x_x : UInt8).toNat : Int) = (z.toNat : Int) ∧ Hid (z = x_y &&& ~~~x_x) := ⟨_, u8n_andNot _ _, rfl⟩
            have hstep : Hid (fits b off S1 (j + 1) = (fits b off S1 j && (z == 0))) := by
              show fits b off S1 (j + 1) = _
              rw [show fits b off S1 (j + 1) = (fits b off S1 j && (((pad b).getD j 0 &&& ~~~(S1.getD (off + j) 0)) == 0)) from rfl, hyv.out, hS1.out j hlt, hxv.out, hzv.out]
            go_wp2_with fail
            go_round
            case rel => exact ⟨j + 1, false, by omega, by go_num, rfl, by show fits b off S1 (j + 1) = false; rw [hstep.out, hft.out]; rfl⟩
            case measure => simp [intOf]; omega
          · have han : (j : Int) < n := by omega
            obtain ⟨ab_x, ao_x, x_x, hAe_x, c_x, _, hx_x⟩ := hA.next (k := j) (by omega)
            subst hAe_x
            have hxv : Hid ((pad a).getD j 0 = x_x) := by
              show (pad a).getD j 0 = x_x
              rw [pad_at a j hlt (by have := hal.out; omega), if_pos (by have := hal.out; omega), List.getD_eq_getElem?_getD, hx_x.out]; rfl
            have hbm : ¬ (j : Int) < m := by omega
            obtain ⟨x_y, hyv⟩ : ∃ x, Hid ((pad b).getD j 0 = x) := ⟨_, rfl⟩
            have hy255 : x_y = 255 := by
              rw [← hyv.out, pad_at b j hlt (by have := hbl.out; omega), if_neg (by have := hbl.out; omega)]
            subst hy255
            obtain ⟨z, hz, hzv⟩ : ∃ z : UInt8, bits .andNot .u8 ((255 : UInt8).toNat : Int) ((x_x : UInt8).toNat : Int) = (z.toNat : Int) ∧ Hid (z = 255 &&& ~~~x_x) := ⟨_, u8n_andNot _ _, rfl⟩
            have hz : bits .andNot .u8 (255) (((x_x : UInt8).toNat : Int)) = (z.toNat : Int) := hz
            have hstep : Hid (fits b off S1 (j + 1) = (fits b off S1 j && (z == 0))) := by
              show fits b off S1 (j + 1) = _
              rw [show fits b off S1 (j + 1) = (fits b off S1 j && (((pad b).getD j 0 &&& ~~~(S1.getD (off + j) 0)) == 0)) from rfl, hyv.out, hS1.out j hlt, hxv.out, hzv.out]
            go_wp2_with fail
            go_round
            case rel => exact ⟨j + 1, false, by omega, by go_num, rfl, by show fits b off S1 (j + 1) = false; rw [hstep.out, hft.out]; rfl⟩
            case measure => simp [intOf]; omega
        · by_cases hbm0 : j < m
          · have han : ¬ (j : Int) < n := by omega
            obtain ⟨x_x, hxv⟩ : ∃ x, Hid ((pad a).getD j 0 = x) := ⟨_, rfl⟩
            have hx255 : x_x = 255 := by
              rw [← hxv.out, pad_at a j hlt (by have := hal.out; omega), if_neg (by have := hal.out; omega)]
            subst hx255
            have hbm : (j : Int) < m := by omega
            obtain ⟨ab_y, ao_y, x_y, hAe_y, c_y, _, hx_y⟩ := hB.next (k := j) (by omega)
            subst hAe_y
            have hyv : Hid ((pad b).getD j 0 = x_y) := by
              show (pad b).getD j 0 = x_y
              rw [pad_at b j hlt (by have := hbl.out; omega), if_pos (by have := hbl.out; omega), List.getD_eq_getElem?_getD, hx_y.out]; rfl
            obtain ⟨z, hz, hzv⟩ : ∃ z : UInt8, bits .andNot .u8 ((x_y : UInt8).toNat : Int) ((255 : UInt8).toNat : Int) = (z.toNat : Int) ∧ Hid (z = x_y &&& ~~~255) := ⟨_, u8n_andNot _ _, rfl⟩
            have hz : bits .andNot .u8 (((x_y : UInt8).toNat : Int)) (255) = (z.toNat : Int) := hz
            have hstep : Hid (fits b off S1 (j + 1) = (fits b off S1 j && (z == 0))) := by
              show fits b off S1 (j + 1) = _
              rw [show fits b off S1 (j + 1) = (fits b off S1 j && (((pad b).getD j 0 &&& ~~~(S1.getD (off + j) 0)) == 0)) from rfl, hyv.out, hS1.out j hlt, hxv.out, hzv.out]
            go_wp2_with fail
            go_round
            case rel => exact ⟨j + 1, false, by omega, by go_num, rfl, by show fits b off S1 (j + 1) = false; rw [hstep.out, hft.out]; rfl⟩
            case measure => simp [intOf]; omega
          · have han : ¬ (j : Int) < n := by omega
            obtain ⟨x_x, hxv⟩ : ∃ x, Hid ((pad a).getD j 0 = x) := ⟨_, rfl⟩
            have hx255 : x_x = 255 := by
              rw [← hxv.out, pad_at a j hlt (by have := hal.out; omega), if_neg (by have := hal.out; omega)]
            subst hx255
            have hbm : ¬ (j : Int) < m := by omega
            obtain ⟨x_y, hyv⟩ : ∃ x, Hid ((pad b).getD j 0 = x) := ⟨_, rfl⟩
            have hy255 : x_y = 255 := by
              rw [← hyv.out, pad_at b j hlt (by have := hbl.out; omega), if_neg (by have := hbl.out; omega)]
            subst hy255
            obtain ⟨z, hz, hzv⟩ : ∃ z : UInt8, bits .andNot .u8 ((255 : UInt8).toNat : Int) ((255 : UInt8).toNat : Int) = (z.toNat : Int) ∧ Hid (z = 255 &&& ~~~255) := ⟨_, u8n_andNot _ _, rfl⟩
            have hz : bits .andNot .u8 (255) (255) = (z.toNat : Int) := hz
            have hstep : Hid (fits b off S1 (j + 1) = (fits b off S1 j && (z == 0))) := by
              show fits b off S1 (j + 1) = _
              rw [show fits b off S1 (j + 1) = (fits b off S1 j && (((pad b).getD j 0 &&& ~~~(S1.getD (off + j) 0)) == 0)) from rfl, hyv.out, hS1.out j hlt, hxv.out, hzv.out]
            go_wp2_with fail
            go_round
            case rel => exact ⟨j + 1, false, by omega, by go_num, rfl, by show fits b off S1 (j + 1) = false; rw [hstep.out, hft.out]; rfl⟩
            case measure => simp [intOf]; omega
      · by_cases han0 : j < n
        · by_cases hbm0 : j < m
          · have han : (j : Int) < n := by omega
            obtain ⟨ab_x, ao_x, x_x, hAe_x, c_x, _, hx_x⟩ := hA.next (k := j) (by omega)
            subst hAe_x
            have hxv : Hid ((pad a).getD j 0 = x_x) := by
              show (pad a).getD j 0 = x_x
              rw [pad_at a j hlt (by have := hal.out; omega), if_pos (by have := hal.out; omega), List.getD_eq_getElem?_getD, hx_x.out]; rfl
            have hbm : (j : Int) < m := by omega
            obtain ⟨ab_y, ao_y, x_y, hAe_y, c_y, _, hx_y⟩ := hB.next (k := j) (by omega)
            subst hAe_y
            have hyv : Hid ((pad b).getD j 0 = x_y) := by
              show (pad b).getD j 0 = x_y
              rw [pad_at b j hlt (by have := hbl.out; omega), if_pos (by have := hbl.out; omega), List.getD_eq_getElem?_getD, hx_y.out]; rfl
            obtain ⟨z, hz, hzv⟩ : ∃ z : UInt8, bits .andNot .u8 ((x_y : UInt8).toNat : Int) ((x_x : UInt8).toNat : Int) = (z.toNat : Int) ∧ Hid (z = x_y &&& ~~~x_x) := ⟨_, u8n_andNot _ _, rfl⟩
            have hstep : Hid (fits b off S1 (j + 1) = (fits b off S1 j && (z == 0))) := by
              show fits b off S1 (j + 1) = _
              rw [show fits b off S1 (j + 1) = (fits b off S1 j && (((pad b).getD j 0 &&& ~~~(S1.getD (off + j) 0)) == 0)) from rfl, hyv.out, hS1.out j hlt, hxv.out, hzv.out]
            by_cases hz0 : z = 0
            · subst hz0
              go_wp2_with fail
              go_round
              case rel => exact ⟨j + 1, true, by omega, by go_num, rfl, by show fits b off S1 (j + 1) = true; rw [hstep.out, hft.out]; rfl⟩
              case measure => simp [intOf]; omega
            · have hzn : ((z.toNat : Int) == 0) = false := by
                have := u8_zero z
                rw [beq_eq_false_iff_ne.2 hz0] at this
                simpa using this
              go_wp2_with fail
              go_round
              case rel => exact ⟨j + 1, false, by omega, by go_num, rfl, by show fits b off S1 (j + 1) = false; rw [hstep.out, hft.out, beq_eq_false_iff_ne.2 hz0]; rfl⟩
              case measure => simp [intOf]; omega
          · have han : (j : Int) < n := by omega
            obtain ⟨ab_x, ao_x, x_x, hAe_x, c_x, _, hx_x⟩ := hA.next (k := j) (by omega)
            subst hAe_x
            have hxv : Hid ((pad a).getD j 0 = x_x) := by
              show (pad a).getD j 0 = x_x
              rw [pad_at a j hlt (by have := hal.out; omega), if_pos (by have := hal.out; omega), List.getD_eq_getElem?_getD, hx_x.out]; rfl
            have hbm : ¬ (j : Int) < m := by omega
            obtain ⟨x_y, hyv⟩ : ∃ x, Hid ((pad b).getD j 0 = x) := ⟨_, rfl⟩
            have hy255 : x_y = 255 := by
              rw [← hyv.out, pad_at b j hlt (by have := hbl.out; omega), if_neg (by have := hbl.out; omega)]
            subst hy255
            obtain ⟨z, hz, hzv⟩ : ∃ z : UInt8, bits .andNot .u8 ((255 : UInt8).toNat : Int) ((x_x : UInt8).toNat : Int) = (z.toNat : Int) ∧ Hid (z = 255 &&& ~~~x_x) := ⟨_, u8n_andNot _ _, rfl⟩
            have hz : bits .andNot .u8 (255) (((x_x : UInt8).toNat : Int)) = (z.toNat : Int) := hz
            have hstep : Hid (fits b off S1 (j + 1) = (fits b off S1 j && (z == 0))) := by
              show fits b off S1 (j + 1) = _
              rw [show fits b off S1 (j + 1) = (fits b off S1 j && (((pad b).getD j 0 &&& ~~~(S1.getD (off + j) 0)) == 0)) from rfl, hyv.out, hS1.out j hlt, hxv.out, hzv.out]
            by_cases hz0 : z = 0
            · subst hz0
              go_wp2_with fail
              go_round
              case rel => exact ⟨j + 1, true, by omega, by go_num, rfl, by show fits b off S1 (j + 1) = true; rw [hstep.out, hft.out]; rfl⟩
              case measure => simp [intOf]; omega
            · have hzn : ((z.toNat : Int) == 0) = false := by
                have := u8_zero z
                rw [beq_eq_false_iff_ne.2 hz0] at this
                simpa using this
              go_wp2_with fail
              go_round
              case rel => exact ⟨j + 1, false, by omega, by go_num, rfl, by show fits b off S1 (j + 1) = false; rw [hstep.out, hft.out, beq_eq_false_iff_ne.2 hz0]; rfl⟩
              case measure => simp [intOf]; omega
        · by_cases hbm0 : j < m
          · have han : ¬ (j : Int) < n := by omega
            obtain ⟨x_x, hxv⟩ : ∃ x, Hid ((pad a).getD j 0 = x) := ⟨_, rfl⟩
            have hx255 : x_x = 255 := by
              rw [← hxv.out, pad_at a j hlt (by have := hal.out; omega), if_neg (by have := hal.out; omega)]
            subst hx255
            have hbm : (j : Int) < m := by omega
            obtain ⟨ab_y, ao_y, x_y, hAe_y, c_y, _, hx_y⟩ := hB.next (k := j) (by omega)
            subst hAe_y
            have hyv : Hid ((pad b).getD j 0 = x_y) := by
              show (pad b).getD j 0 = x_y
              rw [pad_at b j hlt (by have := hbl.out; omega), if_pos (by have := hbl.out; omega), List.getD_eq_getElem?_getD, hx_y.out]; rfl
            obtain ⟨z, hz, hzv⟩ : ∃ z : UInt8, bits .andNot .u8 ((x_y : UInt8).toNat : Int) ((255 : UInt8).toNat : Int) = (z.toNat : Int) ∧ Hid (z = x_y &&& ~~~255) := ⟨_, u8n_andNot _ _, rfl⟩
            have hz : bits .andNot .u8 (((x_y : UInt8).toNat : Int)) (255) = (z.toNat : Int) := hz
            have hstep : Hid (fits b off S1 (j + 1) = (fits b off S1 j && (z == 0))) := by
              show fits b off S1 (j + 1) = _
              rw [show fits b off S1 (j + 1) = (fits b off S1 j && (((pad b).getD j 0 &&& ~~~(S1.getD (off + j) 0)) == 0)) from rfl, hyv.out, hS1.out j hlt, hxv.out, hzv.out]
            by_cases hz0 : z = 0
            · subst hz0
              go_wp2_with fail
              go_round
              case rel => exact ⟨j + 1, true, by omega, by go_num, rfl, by show fits b off S1 (j + 1) = true; rw [hstep.out, hft.out]; rfl⟩
              case measure => simp [intOf]; omega
            · have hzn : ((z.toNat : Int) == 0) = false := by
                have := u8_zero z
                rw [beq_eq_false_iff_ne.2 hz0] at this
                simpa using this
              go_wp2_with fail
              go_round
              case rel => exact ⟨j + 1, false, by omega, by go_num, rfl, by show fits b off S1 (j + 1) = false; rw [hstep.out, hft.out, beq_eq_false_iff_ne.2 hz0]; rfl⟩
              case measure => simp [intOf]; omega
          · have han : ¬ (j : Int) < n := by omega
            obtain ⟨x_x, hxv⟩ : ∃ x, Hid ((pad a).getD j 0 = x) := ⟨_, rfl⟩
            have hx255 : x_x = 255 := by
              rw [← hxv.out, pad_at a j hlt (by have := hal.out; omega), if_neg (by have := hal.out; omega)]
            subst hx255
            have hbm : ¬ (j : Int) < m := by omega
            obtain ⟨x_y, hyv⟩ : ∃ x, Hid ((pad b).getD j 0 = x) := ⟨_, rfl⟩
            have hy255 : x_y = 255 := by
              rw [← hyv.out, pad_at b j hlt (by have := hbl.out; omega), if_neg (by have := hbl.out; omega)]
            subst hy255
            obtain ⟨z, hz, hzv⟩ : ∃ z : UInt8, bits .andNot .u8 ((255 : UInt8).toNat : Int) ((255 : UInt8).toNat : Int) = (z.toNat : Int) ∧ Hid (z = 255 &&& ~~~255) := ⟨_, u8n_andNot _ _, rfl⟩
            have hz : bits .andNot .u8 (255) (255) = (z.toNat : Int) := hz
            have hstep : Hid (fits b off S1 (j + 1) = (fits b off S1 j && (z == 0))) := by
              show fits b off S1 (j + 1) = _
              rw [show fits b off S1 (j + 1) = (fits b off S1 j && (((pad b).getD j 0 &&& ~~~(S1.getD (off + j) 0)) == 0)) from rfl, hyv.out, hS1.out j hlt, hxv.out, hzv.out]
            by_cases hz0 : z = 0
            · subst hz0
              go_wp2_with fail
              go_round
              case rel => exact ⟨j + 1, true, by omega, by go_num, rfl, by show fits b off S1 (j + 1) = true; rw [hstep.out, hft.out]; rfl⟩
              case measure => simp [intOf]; omega
            · have hzn : ((z.toNat : Int) == 0) = false := by
                have := u8_zero z
                rw [beq_eq_false_iff_ne.2 hz0] at this
                simpa using this
              go_wp2_with fail
              go_round
              case rel => exact ⟨j + 1, false, by omega, by go_num, rfl, by show fits b off S1 (j + 1) = false; rw [hstep.out, hft.out, beq_eq_false_iff_ne.2 hz0]; rfl⟩
              case measure => simp [intOf]; omega
    · obtain rfl : j = 16 := by omega
      have hfb : fb = F := by rw [← hft.out, hF.out]
      subst hfb
      clear hft
      have hEv := hE.out
      clear hE
      cases fb
      · have hE13 : E = 13 := hEv
        subst hE13
        clear hEv
        go_wp2_with fail
        go_loop [16] (fun i => ∃ (i' : Nat), i' ≤ 1024 ∧ i = .int .i64 i') (fun i => 1024 - (intOf i).toNat)
        case atStart => exact ⟨0, by omega, rfl⟩
        case round =>
          obtain ⟨i, hi, rfl⟩ := hrel
          by_cases hli : i < 1024
          · have hi1 : (i : Int) < 1024 := by omega
            have hi0 : (0 : Int) ≤ i := by omega
            have hri := hS2.out i hli
            obtain ⟨rx, hrv⟩ : ∃ rx, Hid (rx = wantB false a b q i) := ⟨_, rfl⟩
            rw [← hrv.out] at hri
            obtain ⟨_, _, hRe, cr⟩ := read_cell hB5 hri
            injection hRe with hRe
            injection hRe with e1 e2
            subst e1; subst e2
            clear hri
            by_cases hlo : i < q * 16
            · have hr255 : rx = 255 := by rw [hrv.out]; unfold wantB; rw [if_neg (by omega)]
              subst hr255
              have cr : w5.cell? ⟨rb, ro + i, none⟩ = some (.int .u8 255) := cr
              have hneg : ¬ (0 : Int) ≤ (i : Int) - 16 * (q : Int) := by omega
              go_wp2_with fail
              go_round
              case rel => exact ⟨i + 1, by omega, by go_num⟩
              case measure => simp [intOf]; omega

            · by_cases hhi : q * 16 + 16 ≤ i
              · have hr255 : rx = 255 := by rw [hrv.out]; unfold wantB; rw [if_neg (by omega)]
                subst hr255
                have cr : w5.cell? ⟨rb, ro + i, none⟩ = some (.int .u8 255) := cr
                have hk0' : (0 : Int) ≤ (i : Int) - 16 * (q : Int) := by omega
                have hkn : ¬ (i : Int) - 16 * (q : Int) < n := by omega
                have hk16 : ¬ (i : Int) - 16 * (q : Int) < 16 := by omega
                go_wp2_with fail
                go_round
                case rel => exact ⟨i + 1, by omega, by go_num⟩
                case measure => simp [intOf]; omega

              · obtain ⟨j, hij⟩ : ∃ j : Nat, i = q * 16 + j := ⟨i - q * 16, by omega⟩
                have hj16 : j < 16 := by omega
                have hkj : (i : Int) - 16 * (q : Int) = (j : Int) := by omega
                have hj0 : (0 : Int) ≤ j := by omega
                have hj16' : (j : Int) < 16 := by omega
                have hrj : rx = (pad a).getD j 0 := by
                  rw [hrv.out]; unfold wantB; rw [if_pos (by omega), show i - q * 16 = j by omega]; rfl
                by_cases han0 : j < n
                · have han : (j : Int) < n := by omega
                  obtain ⟨ab_x, ao_x, x_x, hAe_x, c_x, _, hx_x⟩ := hA.next (k := j) (by omega)
                  subst hAe_x
                  have hxr : rx = x_x := by rw [hrj, pad_at a j hj16 (by have := hal.out; omega), if_pos (by have := hal.out; omega), List.getD_eq_getElem?_getD, hx_x.out]; rfl
                  subst hxr
                  clear hrj hrv hx_x
                  clear hij
                  go_wp2_with fail
                  go_round
                  case rel => exact ⟨i + 1, by omega, by go_num⟩
                  case measure => simp [intOf]; omega
                · have han : ¬ (j : Int) < n := by omega
                  have hxr : rx = 255 := by rw [hrj, pad_at a j hj16 (by have := hal.out; omega), if_neg (by have := hal.out; omega)]
                  subst hxr
                  have cr : w5.cell? ⟨rb, ro + i, none⟩ = some (.int .u8 255) := cr
                  clear hrj hrv
                  clear hij
                  go_wp2_with fail
                  go_round
                  case rel => exact ⟨i + 1, by omega, by go_num⟩
                  case measure => simp [intOf]; omega
          · obtain rfl : i = 1024 := by omega
            go_wp2_with fail
            go_ret
            exact ⟨rfl, hb5w⟩
      · have hE0 : E = 0 := hEv
        subst hE0
        clear hEv
        go_wp2_with fail
        go_loop [16] (fun i => ∃ (i' : Nat), i' ≤ 1024 ∧ i = .int .i64 i') (fun i => 1024 - (intOf i).toNat)
        case atStart => exact ⟨0, by omega, rfl⟩
        case round =>
          obtain ⟨i, hi, rfl⟩ := hrel
          by_cases hli : i < 1024
          · have hi1 : (i : Int) < 1024 := by omega
            have hi0 : (0 : Int) ≤ i := by omega
            have hri := hS2.out i hli
            obtain ⟨rx, hrv⟩ : ∃ rx, Hid (rx = wantB true a b q i) := ⟨_, rfl⟩
            rw [← hrv.out] at hri
            obtain ⟨_, _, hRe, cr⟩ := read_cell hB5 hri
            injection hRe with hRe
            injection hRe with e1 e2
            subst e1; subst e2
            clear hri
            by_cases hlo : i < q * 16
            · have hr255 : rx = 255 := by rw [hrv.out]; unfold wantB; rw [if_neg (by omega)]
              subst hr255
              have cr : w5.cell? ⟨rb, ro + i, none⟩ = some (.int .u8 255) := cr
              have hneg : ¬ (0 : Int) ≤ (i : Int) - 16 * (q : Int) := by omega
              go_wp2_with fail
              go_round
              case rel => exact ⟨i + 1, by omega, by go_num⟩
              case measure => simp [intOf]; omega

            · by_cases hhi : q * 16 + 16 ≤ i
              · have hr255 : rx = 255 := by rw [hrv.out]; unfold wantB; rw [if_neg (by omega)]
                subst hr255
                have cr : w5.cell? ⟨rb, ro + i, none⟩ = some (.int .u8 255) := cr
                have hk0' : (0 : Int) ≤ (i : Int) - 16 * (q : Int) := by omega
                have hkn : ¬ (i : Int) - 16 * (q : Int) < n := by omega
                have hk16 : ¬ (i : Int) - 16 * (q : Int) < 16 := by omega
                go_wp2_with fail
                go_round
                case rel => exact ⟨i + 1, by omega, by go_num⟩
                case measure => simp [intOf]; omega

              · obtain ⟨j, hij⟩ : ∃ j : Nat, i = q * 16 + j := ⟨i - q * 16, by omega⟩
                have hj16 : j < 16 := by omega
                have hkj : (i : Int) - 16 * (q : Int) = (j : Int) := by omega
                have hj0 : (0 : Int) ≤ j := by omega
                have hj16' : (j : Int) < 16 := by omega
                have hrj : rx = (pad b).getD j 0 := by
                  rw [hrv.out]; unfold wantB; rw [if_pos (by omega), show i - q * 16 = j by omega]; rfl
                by_cases han0 : j < n
                · have han : (j : Int) < n := by omega
                  obtain ⟨ab_x, ao_x, x_x, hAe_x, c_x, _, hx_x⟩ := hA.next (k := j) (by omega)
                  subst hAe_x
                  by_cases hbm0 : j < m
                  · have hbm : (j : Int) < m := by omega
                    obtain ⟨ab_y, ao_y, x_y, hAe_y, c_y, _, hx_y⟩ := hB.next (k := j) (by omega)
                    subst hAe_y
                    have hyr : rx = x_y := by rw [hrj, pad_at b j hj16 (by have := hbl.out; omega), if_pos (by have := hbl.out; omega), List.getD_eq_getElem?_getD, hx_y.out]; rfl
                    subst hyr
                    clear hrj hrv hx_y hij
                    go_wp2_with fail
                    go_round
                    case rel => exact ⟨i + 1, by omega, by go_num⟩
                    case measure => simp [intOf]; omega
                  · have hbm : ¬ (j : Int) < m := by omega
                    have hyr : rx = 255 := by rw [hrj, pad_at b j hj16 (by have := hbl.out; omega), if_neg (by have := hbl.out; omega)]
                    subst hyr
                    have cr : w5.cell? ⟨rb, ro + i, none⟩ = some (.int .u8 255) := cr
                    clear hrj hrv hij
                    go_wp2_with fail
                    go_round
                    case rel => exact ⟨i + 1, by omega, by go_num⟩
                    case measure => simp [intOf]; omega
                · have han : ¬ (j : Int) < n := by omega
                  by_cases hbm0 : j < m
                  · have hbm : (j : Int) < m := by omega
                    obtain ⟨ab_y, ao_y, x_y, hAe_y, c_y, _, hx_y⟩ := hB.next (k := j) (by omega)
                    subst hAe_y
                    have hyr : rx = x_y := by rw [hrj, pad_at b j hj16 (by have := hbl.out; omega), if_pos (by have := hbl.out; omega), List.getD_eq_getElem?_getD, hx_y.out]; rfl
                    subst hyr
                    clear hrj hrv hx_y hij
                    go_wp2_with fail
                    go_round
                    case rel => exact ⟨i + 1, by omega, by go_num⟩
                    case measure => simp [intOf]; omega
                  · have hbm : ¬ (j : Int) < m := by omega
                    have hyr : rx = 255 := by rw [hrj, pad_at b j hj16 (by have := hbl.out; omega), if_neg (by have := hbl.out; omega)]
                    subst hyr
                    have cr : w5.cell? ⟨rb, ro + i, none⟩ = some (.int .u8 255) := cr
                    clear hrj hrv hij
                    go_wp2_with fail
                    go_round
                    case rel => exact ⟨i + 1, by omega, by go_num⟩
                    case measure => simp [intOf]; omega
          · obtain rfl : i = 1024 := by omega
            go_wp2_with fail
            go_ret
            exact ⟨rfl, hb5w⟩

theorem flashBits_top (A : Option Addr) (n c : Nat) (a : List UInt8) (B : Option Addr) (m d : Nat) (b : List UInt8) (s p : Int) (w : World) (hA : Bs w A n a) (hc0 : n ≤ c) (hc2 : c ≤ 140737488351232) (hB : Bs w B m b) (hd0 : m ≤ d) (hd2 : d ≤ 140737488351232)
    (_ : -9223372036854775808 ≤ s ∧ s ≤ 9223372036854775807) (_ : -9223372036854775808 ≤ p ∧ p ≤ 9223372036854775807) :
    Calls Try.prog 3 #[.slice A n c, .slice B m d, .int .i64 s, .int .i64 p] w fun e w' => e = .returned (.bool true) ∧ Below w.heap.size w w' := by
  by_cases h : 16 < n ∨ 16 < m
  · exact flashBits_none A n c B m d s p w h (by omega) (by omega)
  have hk := within_lt s 6 (by omega)
  have hq := within_lt p 64 (by omega)
  have ha : a.length ≤ 16 := by rw [hA.len]; omega
  have hb : b.length ≤ 16 := by rw [hB.len]; omega
  generalize hk' : within s 6 = k at hk
  generalize hq' : within p 64 = q at hq
  have hp1 : progF newF k q a = (0, doneP newF (k * 1024 + q * 16) a) := prog_ok newF k q a rfl rfl hk hq ha (fits_blank _ _ _ fun j hj => newF_at _ (by omega))
  have hl1 : (doneP newF (k * 1024 + q * 16) a).S.length = 6144 := by rw [doneP_len, newF_len]
  have hs1 : ∀ i, i < 6144 → (doneP newF (k * 1024 + q * 16) a).S.getD i 0 = if k * 1024 + q * 16 ≤ i ∧ i < k * 1024 + q * 16 + 16 then (pad a).getD (i - (k * 1024 + q * 16)) 0 else 255 := fun i hi => by
    rw [doneP_at _ _ _ _ (by rw [newF_len]; exact hi), newF_at _ hi]
  have hd1 : (doneP newF (k * 1024 + q * 16) a).dead = false := rfl
  have hl0 : (doneP newF (k * 1024 + q * 16) a).left = 0 := rfl
  generalize doneP newF (k * 1024 + q * 16) a = f1 at hp1 hl1 hs1 hd1 hl0
  have hS1 : ∀ j, j < 16 → f1.S.getD (k * 1024 + q * 16 + j) 0 = (pad a).getD j 0 := fun j hj => by
    rw [hs1 _ (by omega), if_pos (by omega), show k * 1024 + q * 16 + j - (k * 1024 + q * 16) = j by omega]
  cases hF : fits b (k * 1024 + q * 16) f1.S 16
  · refine flashBits_core A n c a B m d b s p w hA hc0 (by omega) hB hd0 (by omega) (by omega) (by omega) k q _ hk' hq' rfl f1 f1 _ rfl false 13 hp1 hF (prog_set f1 k q b hd1 hk hq hb hF) rfl hS1 (fun i hi => ?_) (read_len f1 k hk hl1)
    rw [read_at f1 k hk hl1 i hi, hs1 _ (by omega)]
    unfold wantB
    by_cases hi2 : q * 16 ≤ i ∧ i < q * 16 + 16
    · rw [if_pos (by omega), if_pos hi2, if_neg (by simp), show k * 1024 + i - (k * 1024 + q * 16) = i - q * 16 by omega]
    · rw [if_neg (by omega), if_neg hi2]
  · refine flashBits_core A n c a B m d b s p w hA hc0 (by omega) hB hd0 (by omega) (by omega) (by omega) k q _ hk' hq' rfl f1 (doneP f1 (k * 1024 + q * 16) b) _ rfl true 0 hp1 hF (prog_ok f1 k q b hd1 hl0 hk hq hb hF) rfl hS1 (fun i hi => ?_) (read_len _ k hk (by rw [doneP_len, hl1]))
    rw [read_at _ k hk (by rw [doneP_len, hl1]) i hi, doneP_at _ _ _ _ (by rw [hl1]; omega), hs1 _ (by omega)]
    unfold wantB
    by_cases hi2 : q * 16 ≤ i ∧ i < q * 16 + 16
    · rw [if_pos (by omega), if_pos hi2, if_pos rfl, show k * 1024 + i - (k * 1024 + q * 16) = i - q * 16 by omega]
    · rw [if_neg (by omega), if_neg (by omega), if_neg hi2]
end Go.Proofs.Ytdomdnmjabadiaa
