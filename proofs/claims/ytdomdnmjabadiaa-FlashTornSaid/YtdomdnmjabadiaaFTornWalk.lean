/- FlashTorn: the walk. -/
import Derived.Test.YtdomdnmjabadiaaTornPlain
namespace Go.Proofs.Ytdomdnmjabadiaa
open Go.RowKit

theorem xor_max (m : UInt8) : bits .xor .u8 (if IntKind.u8.signed = true then -1 else IntKind.u8.max) (m.toNat : Int) = ((~~~m).toNat : Int) := by
  rw [if_neg (by decide), show IntKind.u8.max = ((255 : Nat) : Int) from rfl, u8_xor_nat 255 m.toNat (by omega) (byte_lt m)]
  have h : (255 : UInt8) ^^^ m = ~~~m := by
    apply UInt8.toBitVec_inj.1
    apply BitVec.eq_of_getLsbD_eq
    intro i hi
    simp only [UInt8.toBitVec_xor, UInt8.toBitVec_not, BitVec.getLsbD_xor, BitVec.getLsbD_not]
    have h255 : (255 : UInt8).toBitVec.getLsbD i = true := by
      match i, hi with
      | 0, _ => rfl
      | 1, _ => rfl
      | 2, _ => rfl
      | 3, _ => rfl
      | 4, _ => rfl
      | 5, _ => rfl
      | 6, _ => rfl
      | 7, _ => rfl
    have h8 : decide (i < 8) = true := by simpa using hi
    rw [h255, h8]
    cases m.toBitVec.getLsbD i <;> rfl
  rw [← h, UInt8.toNat_xor]
  rfl
theorem u8_not (m : UInt8) : (255 : Int) - (m.toNat : Int) = ((~~~m).toNat : Int) := by
  rw [UInt8.toNat_not]
  have := byte_lt m
  show _ = ((256 - 1 - m.toNat : Nat) : Int)
  omega
theorem or_all (x : UInt8) : x ||| ~~~(0 : UInt8) = 255 := by
  rw [show (~~~(0 : UInt8)) = 255 by decide, UInt8.or_comm]
  have := or_not_self (~~~x)
  apply UInt8.toBitVec_inj.1
  have h2 := congrArg UInt8.toBitVec this
  simpa using h2
theorem u8_or_255 (x : UInt8) : bits .or .u8 (x.toNat : Int) 255 = 255 := by
  have h := u8n_or x 255
  rw [show x ||| (255 : UInt8) = 255 by have := or_all x; rwa [show (~~~(0 : UInt8)) = 255 by decide] at this] at h
  exact h

set_option maxRecDepth 100000 in
theorem flashTorn_none (A : Option Addr) (n c : Nat) (M : Option Addr) (m d : Nat) (er : Bool) (w : World) (hn : 16 < n ∨ 20 < m) (hn2 : n ≤ 9223372036854775807) (hm2 : m ≤ 9223372036854775807) :
    Calls Try.prog 7 #[.slice A n c, .slice M m d, .bool er] w fun e w' => e = .returned (.bool true) ∧ Below w.heap.size w w' := by
  by_cases h : 16 < n
  all_goals
    have hm : 16 < n ∨ 20 < m := hn
    first
      | (have h3 : (16 : Int) < n := by omega)
      | (have h4 : (20 : Int) < m := by omega)
    go_enter Try.func7, Try.ntmps7
    go_wp2_with (go_at_call 10; refine Calls.mono (known_any _) ?_; rintro e w1 ⟨rfl, hb1⟩)
    go_ret
    exact ⟨rfl, hb1⟩

set_option maxRecDepth 100000 in
set_option maxHeartbeats 8000000 in
theorem flashTorn_walk (A : Option Addr) (n c : Nat) (b : List UInt8) (M : Option Addr) (m d : Nat) (mask : List UInt8) (er : Bool) (w : World) (hA0 : Bs w A n b) (hc0 : n ≤ c) (hc2 : c ≤ 9223372036854775807) (hM0 : Bs w M m mask) (hd0 : m ≤ d) (hd2 : d ≤ 9223372036854775807) (hn16 : n ≤ 16) (hm20 : m ≤ 20) :
    Calls Try.prog 7 #[.slice A n c, .slice M m d, .bool er] w fun e w' => e = .returned (.bool true) ∧ Below w.heap.size w w' := by
  have hn16' : (n : Int) ≤ 16 := by omega
  have hm20' : (m : Int) ≤ 20 := by omega
  have hbl := Lib.hid hA0.len
  have hml := Lib.hid hM0.len
  obtain ⟨f1, f3, f5, hT⟩ := torn_ex er b mask (by rw [hbl.out]; omega)
  have HT := Lib.hid hT
  clear hT
  go_enter Try.func7, Try.ntmps7
  go_upto_region 6 with (first
    | (go_at_call 10; refine Calls.mono (known_any _) ?_; rintro e w1 ⟨rfl, hb1⟩)
    | (go_at_call 12; refine Calls.mono (new_any _) ?_; rintro r w2 ⟨rfl, hf2, hb2⟩))
  have hb2w := below_two hb1 hb2
  have hgw : w.heap.size ≤ w1.heap.size := hb1.size
  generalize w1.heap.size = g at hf2 hgw ⊢
  clear hb1 hb2
  go_upto_region 7 with (go_at_call 13; refine Calls.mono (program_any _ g (fun _ h => h.elim) newF 1 3 _ 3 3 [0, 0, 0] _ (hf2.below ((Below.refl _ _).alloc (Nat.le_refl _) _)) (Bs.lit _ rfl [0, 0, 0] rfl rfl) (by omega) (by omega)) ?_; rw [HT.out.p1]; rintro r w3 ⟨rfl, hf3, hg3⟩)
  have hf3 : FS (fun _ => False) w3 g f1 := hf3
  have hb3 := below_grown (hb2w.alloc hb2w.size _) hg3 (Nat.le_trans hb2w.size (by simp)) hgw
  have hglt := hf3.lt
  go_upto_region 8 with (go_at_call 17; refine Calls.mono (stop_any (fun b => b ≠ g) g f1 1 M m d mask _ (hf3.weak fun _ h => h.elim) (fun b hb => Nat.ne_of_gt (Nat.lt_of_lt_of_le hglt hb)) (by omega) (hM0.below hb3) (by omega)) ?_; rintro r w4 ⟨rfl, hf4, hg4⟩)
  have hb4 := below_grown hb3 hg4 hb3.size hgw
  clear hg3 hg4 hb3 hb2w
  cases er
  · have P2 : Hid (progF (stopF f1 1 mask) 1 5 b = (14, f3)) := by
      have := HT.out.p2
      rw [if_neg (by simp)] at this
      exact this
    go_upto_region 14 with (go_at_call 13; refine Calls.mono (program_any (fun b => b ≠ g) g (fun _ h => h) (stopF f1 1 mask) 1 5 A n c b _ hf4 (hA0.below hb4) hc0 hc2) ?_; rw [P2.out]; rintro r w5 ⟨rfl, hf5, hg5⟩)
    have hf5 : FS (fun b => b ≠ g) w5 g f3 := hf5
    have hb5 := below_grown hb4 hg5 hb4.size hgw
    go_upto_region 16 with (first
      | (go_at_call 18; refine Calls.mono (dead_any _ g f3 _ hf5) ?_; rw [HT.out.dead]; rintro r _ ⟨rfl, rfl⟩)
      | (go_at_call 13; refine Calls.mono (program_any (fun b => b ≠ g) g (fun _ h => h) f3 0 0 none 0 0 [] _ hf5 (Bs.nil _ _) (by omega) (by omega)) ?_; rw [prog_dead f3 0 0 [] HT.out.dead]; rintro r w5b ⟨rfl, hf5b, hg5b⟩)
      | (go_at_call 16; refine Calls.mono (erase_any (fun b => b ≠ g) g (fun _ h => h) f3 2 _ hf5b) ?_; rw [erase_dead f3 2 HT.out.dead]; rintro r w5c ⟨rfl, hf5c, hg5c⟩))
    have hf5c : FS (fun b => b ≠ g) w5c g f3 := hf5c
    have hb5c := below_grown (below_grown hb5 hg5b hb5.size hgw) hg5c (Nat.le_trans hb5.size hg5b.size) hgw
    go_upto_region 17 with (go_at_call 14; refine Calls.mono (read_any _ g f3 1 _ hf5c) ?_; rintro r w6 ⟨A6, n6, c6, rfl, hB6, hn6, hc6, hb6⟩; obtain rfl : n6 = 1024 := by { rw [← hB6.len]; exact HT.out.len })
    have hb6w := below_two hb5c hb6
    have hf6 := hf5c.below hb6
    have hB := hA0.below hb6w
    have hM6 := hM0.below hb6w
    obtain ⟨rb, ro, rfl⟩ := hB6.some_ (by omega)
    clear hf2 hf3 hf4 hf5 hf5b hf5c hb4 hb5 hb5c hb6 hg5 hg5b hg5c hn6 hA0 hM0 P2
    go_wp2_with fail
    go_loop [11] (fun i => ∃ (j : Nat), j ≤ 16 ∧ i = .int .i64 j) (fun i => 16 - (intOf i).toNat)
    case atStart => exact ⟨0, by omega, rfl⟩
    case round =>
      obtain ⟨j, hj, rfl⟩ := hrel
      by_cases hlt : j < 16
      · have hj1 : (j : Int) < 16 := by omega
        have hj0 : (0 : Int) ≤ j := by omega
        have hread := HT.out.read j hlt
        rw [if_neg (by simp)] at hread
        obtain ⟨rx, hrv⟩ : ∃ rx, Hid (rx = wantT false b mask j) := ⟨_, rfl⟩
        rw [← hrv.out] at hread
        obtain ⟨_, _, hRe, cr⟩ := read_cell hB6 hread
        injection hRe with hRe
        injection hRe with e1 e2
        subst e1; subst e2
        clear hread
        by_cases hjn : j < n
        · have hjn' : (j : Int) < n := by omega
          obtain ⟨bb, bo, x, hBe, cx, _, hx⟩ := hB.next (k := j) hjn
          subst hBe
          have hxv : b.getD j 0 = x := by rw [List.getD_eq_getElem?_getD, hx.out]; rfl
          have HX := Lib.hid hxv
          clear hx hxv
          by_cases hm0 : m = 0
          · have hmz : ¬ (0 : Int) < m := by omega
            have hrc : rx = 255 := by
              rw [hrv.out]; unfold wantT mByte
              rw [if_neg (by simp), if_pos (by rw [hbl.out]; exact hjn), if_neg (by simp), if_pos (by rw [hml.out]; exact hm0), HX.out]
              exact or_all x
            subst hrc
            have cr : w6.cell? ⟨rb, ro + (80 + j), none⟩ = some (.int .u8 255) := cr
            clear hrv
            have hor := u8_or_255 x
            have hxm : bits .xor .u8 (if IntKind.u8.signed = true then -1 else IntKind.u8.max) 0 = 255 := xor_max 0
            go_wp2_with fail
            go_round
            case rel => exact ⟨j + 1, by omega, by go_num⟩
            case measure => simp [intOf]; omega
          · have hkm : (j) % m < m := Nat.mod_lt _ (by omega)
            obtain ⟨mb, mo, mv, hMe, cm, _, hmx⟩ := hM6.next (k := (j) % m) hkm
            subst hMe
            have hmv : mByte false mask (j) = mv := by
              unfold mByte
              rw [if_neg (by simp), if_neg (by rw [hml.out]; omega), hml.out, List.getD_eq_getElem?_getD, hmx.out]
              rfl
            have htm : Int.tmod (j : Int) (m : Int) = (((j) % m : Nat) : Int) := by
              have : (j : Int) = ((j : Nat) : Int) := by omega
              rw [this]; rfl
            have HMV := Lib.hid hmv
            clear hmx hmv
            generalize (j) % m = km at hkm cm htm
            have hkm0 : (0 : Int) ≤ km := by omega
            have hkm1 : (km : Int) < m := by omega
            have hmp : (0 : Int) < m := by omega
            have hrc : rx = x ||| ~~~mv := by rw [hrv.out]; unfold wantT; rw [if_neg (by simp), if_pos (by rw [hbl.out]; exact hjn), HMV.out, HX.out]
            clear hrv
            obtain ⟨nm, hnm, hnv⟩ : ∃ nm : UInt8, bits .xor .u8 (if IntKind.u8.signed = true then -1 else IntKind.u8.max) (mv.toNat : Int) = (nm.toNat : Int) ∧ Hid (nm = ~~~mv) := ⟨~~~mv, xor_max mv, rfl⟩
            have hor : bits .or .u8 (x.toNat : Int) (nm.toNat : Int) = (rx.toNat : Int) := by rw [u8n_or, hrc, hnv.out]
            clear hrc
            go_wp2_with fail
            go_round
            case rel => exact ⟨j + 1, by omega, by go_num⟩
            case measure => simp [intOf]; omega
        · have hjn' : ¬ (j : Int) < n := by omega
          have hrc : rx = 255 := by rw [hrv.out]; unfold wantT; rw [if_neg (by simp), if_neg (by rw [hbl.out]; omega)]
          subst hrc
          have cr : w6.cell? ⟨rb, ro + (80 + j), none⟩ = some (.int .u8 255) := cr
          clear hrv
          by_cases hm0 : m = 0
          · have hmz : ¬ (0 : Int) < m := by omega
            go_wp2_with fail
            go_round
            case rel => exact ⟨j + 1, by omega, by go_num⟩
            case measure => simp [intOf]; omega
          · have hkm : (j) % m < m := Nat.mod_lt _ (by omega)
            obtain ⟨mb, mo, mv, hMe, cm, _, hmx⟩ := hM6.next (k := (j) % m) hkm
            subst hMe
            have hmv : mByte false mask (j) = mv := by
              unfold mByte
              rw [if_neg (by simp), if_neg (by rw [hml.out]; omega), hml.out, List.getD_eq_getElem?_getD, hmx.out]
              rfl
            have htm : Int.tmod (j : Int) (m : Int) = (((j) % m : Nat) : Int) := by
              have : (j : Int) = ((j : Nat) : Int) := by omega
              rw [this]; rfl
            have HMV := Lib.hid hmv
            clear hmx hmv
            generalize (j) % m = km at hkm cm htm
            have hkm0 : (0 : Int) ≤ km := by omega
            have hkm1 : (km : Int) < m := by omega
            have hmp : (0 : Int) < m := by omega
            go_wp2_with fail
            go_round
            case rel => exact ⟨j + 1, by omega, by go_num⟩
            case measure => simp [intOf]; omega
      · obtain rfl : j = 16 := by omega
        go_upto_region 34 with (go_at_call 19; refine Calls.mono (start_any _ g f3 _ hf6) ?_; rintro r w7 ⟨rfl, hf7, hg7⟩)
        have hb7 := below_grown hb6w hg7 hb6w.size hgw
        have hd7 : (startF f3).dead = false := rfl
        go_wp2_with (first
          | (go_at_call 18; refine Calls.mono (dead_any _ g (startF f3) _ hf7) ?_; rw [hd7]; rintro r _ ⟨rfl, rfl⟩)
          | (go_at_call 16; refine Calls.mono (erase_any (fun b => b ≠ g) g (fun _ h => h) (startF f3) 1 _ hf7) ?_; rw [HT.out.again]; rintro r w8 ⟨rfl, hf8, hg8⟩; have hf8 : FS (fun b => b ≠ g) w8 g f5 := hf8)
          | (go_at_call 14; refine Calls.mono (read_any _ g f5 1 _ hf8) ?_; rintro r w9 ⟨A9, n9, c9, rfl, hB9, hn9, hc9, hb9⟩; obtain rfl : n9 = 1024 := by { rw [← hB9.len]; exact HT.out.len5 }; obtain ⟨b9, o9, rfl, cx9⟩ := read_cell hB9 HT.out.last; have cx9 : w9.cell? ⟨b9, o9 + 48, none⟩ = some (.int .u8 255) := cx9))
        go_ret
        exact ⟨rfl, below_two (below_grown hb7 hg8 hb7.size hgw) hb9⟩
  · have P2 : Hid (eraseF (stopF f1 1 mask) 1 = (14, f3)) := by
      have := HT.out.p2
      rw [if_pos rfl] at this
      exact this
    go_upto_region 14 with (go_at_call 16; refine Calls.mono (erase_any (fun b => b ≠ g) g (fun _ h => h) (stopF f1 1 mask) 1 _ hf4) ?_; rw [P2.out]; rintro r w5 ⟨rfl, hf5, hg5⟩)
    have hf5 : FS (fun b => b ≠ g) w5 g f3 := hf5
    have hb5 := below_grown hb4 hg5 hb4.size hgw
    go_upto_region 16 with (first
      | (go_at_call 18; refine Calls.mono (dead_any _ g f3 _ hf5) ?_; rw [HT.out.dead]; rintro r _ ⟨rfl, rfl⟩)
      | (go_at_call 13; refine Calls.mono (program_any (fun b => b ≠ g) g (fun _ h => h) f3 0 0 none 0 0 [] _ hf5 (Bs.nil _ _) (by omega) (by omega)) ?_; rw [prog_dead f3 0 0 [] HT.out.dead]; rintro r w5b ⟨rfl, hf5b, hg5b⟩)
      | (go_at_call 16; refine Calls.mono (erase_any (fun b => b ≠ g) g (fun _ h => h) f3 2 _ hf5b) ?_; rw [erase_dead f3 2 HT.out.dead]; rintro r w5c ⟨rfl, hf5c, hg5c⟩))
    have hf5c : FS (fun b => b ≠ g) w5c g f3 := hf5c
    have hb5c := below_grown (below_grown hb5 hg5b hb5.size hgw) hg5c (Nat.le_trans hb5.size hg5b.size) hgw
    go_upto_region 17 with (go_at_call 14; refine Calls.mono (read_any _ g f3 1 _ hf5c) ?_; rintro r w6 ⟨A6, n6, c6, rfl, hB6, hn6, hc6, hb6⟩; obtain rfl : n6 = 1024 := by { rw [← hB6.len]; exact HT.out.len })
    have hb6w := below_two hb5c hb6
    have hf6 := hf5c.below hb6
    have hB := hA0.below hb6w
    have hM6 := hM0.below hb6w
    obtain ⟨rb, ro, rfl⟩ := hB6.some_ (by omega)
    clear hf2 hf3 hf4 hf5 hf5b hf5c hb4 hb5 hb5c hb6 hg5 hg5b hg5c hn6 hA0 hM0 P2
    go_wp2_with fail
    go_loop [11] (fun i => ∃ (j : Nat), j ≤ 16 ∧ i = .int .i64 j) (fun i => 16 - (intOf i).toNat)
    case atStart => exact ⟨0, by omega, rfl⟩
    case round =>
      obtain ⟨j, hj, rfl⟩ := hrel
      by_cases hlt : j < 16
      · have hj1 : (j : Int) < 16 := by omega
        have hj0 : (0 : Int) ≤ j := by omega
        have hread := HT.out.read j hlt
        rw [if_pos rfl] at hread
        obtain ⟨rx, hrv⟩ : ∃ rx, Hid (rx = wantT true b mask j) := ⟨_, rfl⟩
        rw [← hrv.out] at hread
        obtain ⟨_, _, hRe, cr⟩ := read_cell hB6 hread
        injection hRe with hRe
        injection hRe with e1 e2
        subst e1; subst e2
        clear hread
        by_cases hj3 : j < 3
        · have hj3' : (j : Int) < 3 := by omega
          by_cases hm0 : m = 0
          · have hmz : ¬ (0 : Int) < m := by omega
            have hrc : rx = 0 := by rw [hrv.out]; unfold wantT mByte; rw [if_pos rfl, if_pos hj3, if_neg (by simp), if_pos (by rw [hml.out]; exact hm0)]
            subst hrc
            have cr : w6.cell? ⟨rb, ro + (48 + j), none⟩ = some (.int .u8 0) := cr
            clear hrv
            go_wp2_with fail
            go_round
            case rel => exact ⟨j + 1, by omega, by go_num⟩
            case measure => simp [intOf]; omega
          · have hkm : (48 + j) % m < m := Nat.mod_lt _ (by omega)
            obtain ⟨mb, mo, mv, hMe, cm, _, hmx⟩ := hM6.next (k := (48 + j) % m) hkm
            subst hMe
            have hmv : mByte false mask (48 + j) = mv := by
              unfold mByte
              rw [if_neg (by simp), if_neg (by rw [hml.out]; omega), hml.out, List.getD_eq_getElem?_getD, hmx.out]
              rfl
            have htm : Int.tmod ((48 : Int) + (j : Int)) (m : Int) = (((48 + j) % m : Nat) : Int) := by
              have : ((48 : Int) + (j : Int)) = ((48 + j : Nat) : Int) := by omega
              rw [this]; rfl
            have HMV := Lib.hid hmv
            clear hmx hmv
            generalize (48 + j) % m = km at hkm cm htm
            have hkm0 : (0 : Int) ≤ km := by omega
            have hkm1 : (km : Int) < m := by omega
            have hmp : (0 : Int) < m := by omega
            have hrc : rx = mv := by rw [hrv.out]; unfold wantT; rw [if_pos rfl, if_pos hj3, HMV.out]
            subst hrc
            clear hrv
            go_wp2_with fail
            go_round
            case rel => exact ⟨j + 1, by omega, by go_num⟩
            case measure => simp [intOf]; omega
        · have hj3' : ¬ (j : Int) < 3 := by omega
          have hrc : rx = 255 := by rw [hrv.out]; unfold wantT; rw [if_pos rfl, if_neg (by omega)]
          subst hrc
          have cr : w6.cell? ⟨rb, ro + (48 + j), none⟩ = some (.int .u8 255) := cr
          clear hrv
          by_cases hm0 : m = 0
          · have hmz : ¬ (0 : Int) < m := by omega
            go_wp2_with fail
            go_round
            case rel => exact ⟨j + 1, by omega, by go_num⟩
            case measure => simp [intOf]; omega
          · have hkm : (48 + j) % m < m := Nat.mod_lt _ (by omega)
            obtain ⟨mb, mo, mv, hMe, cm, _, hmx⟩ := hM6.next (k := (48 + j) % m) hkm
            subst hMe
            have hmv : mByte false mask (48 + j) = mv := by
              unfold mByte
              rw [if_neg (by simp), if_neg (by rw [hml.out]; omega), hml.out, List.getD_eq_getElem?_getD, hmx.out]
              rfl
            have htm : Int.tmod ((48 : Int) + (j : Int)) (m : Int) = (((48 + j) % m : Nat) : Int) := by
              have : ((48 : Int) + (j : Int)) = ((48 + j : Nat) : Int) := by omega
              rw [this]; rfl
            have HMV := Lib.hid hmv
            clear hmx hmv
            generalize (48 + j) % m = km at hkm cm htm
            have hkm0 : (0 : Int) ≤ km := by omega
            have hkm1 : (km : Int) < m := by omega
            have hmp : (0 : Int) < m := by omega
            go_wp2_with fail
            go_round
            case rel => exact ⟨j + 1, by omega, by go_num⟩
            case measure => simp [intOf]; omega
      · obtain rfl : j = 16 := by omega
        go_upto_region 34 with (go_at_call 19; refine Calls.mono (start_any _ g f3 _ hf6) ?_; rintro r w7 ⟨rfl, hf7, hg7⟩)
        have hb7 := below_grown hb6w hg7 hb6w.size hgw
        have hd7 : (startF f3).dead = false := rfl
        go_wp2_with (first
          | (go_at_call 18; refine Calls.mono (dead_any _ g (startF f3) _ hf7) ?_; rw [hd7]; rintro r _ ⟨rfl, rfl⟩)
          | (go_at_call 16; refine Calls.mono (erase_any (fun b => b ≠ g) g (fun _ h => h) (startF f3) 1 _ hf7) ?_; rw [HT.out.again]; rintro r w8 ⟨rfl, hf8, hg8⟩; have hf8 : FS (fun b => b ≠ g) w8 g f5 := hf8)
          | (go_at_call 14; refine Calls.mono (read_any _ g f5 1 _ hf8) ?_; rintro r w9 ⟨A9, n9, c9, rfl, hB9, hn9, hc9, hb9⟩; obtain rfl : n9 = 1024 := by { rw [← hB9.len]; exact HT.out.len5 }; obtain ⟨b9, o9, rfl, cx9⟩ := read_cell hB9 HT.out.last; have cx9 : w9.cell? ⟨b9, o9 + 48, none⟩ = some (.int .u8 255) := cx9))
        go_ret
        exact ⟨rfl, below_two (below_grown hb7 hg8 hb7.size hgw) hb9⟩

theorem flashTorn_top (A : Option Addr) (n c : Nat) (b : List UInt8) (M : Option Addr) (m d : Nat) (mask : List UInt8) (er : Bool) (w : World) (hA : Bs w A n b) (hc0 : n ≤ c) (hc2 : c ≤ 140737488351232) (hM : Bs w M m mask) (hd0 : m ≤ d) (hd2 : d ≤ 140737488351232) :
    Calls Try.prog 7 #[.slice A n c, .slice M m d, .bool er] w fun e w' => e = .returned (.bool true) ∧ Below w.heap.size w w' := by
  by_cases h : 16 < n ∨ 20 < m
  · exact flashTorn_none A n c M m d er w h (by omega) (by omega)
  · exact flashTorn_walk A n c b M m d mask er w hA hc0 (by omega) hM hd0 (by omega) (by omega) (by omega)
end Go.Proofs.Ytdomdnmjabadiaa
