/- FlashErase: the walk. -/
import Derived.Test.YtdomdnmjabadiaaErasePlain
namespace Go.Proofs.Ytdomdnmjabadiaa
open Go.RowKit

theorem elem_at {w : World} {A : Option Addr} {n j : Nat} {zs : List Int} (hA : Vs w A n (zs.map (Value.int .i64))) (hl : zs.length = n) (hj : j < n) :
    ∃ b o z, A = some ⟨b, o, none⟩ ∧ w.cell? ⟨b, o + j, none⟩ = some (.int .i64 z) ∧ Hid (zs[j]? = some z) := by
  obtain ⟨b, o, e, hc⟩ := hA.at_ hj
  refine ⟨b, o, zs[j]'(by omega), e, ?_, List.getElem?_eq_getElem _⟩
  rw [hc]
  simp
theorem small_byte (k : Nat) (hk : k < 256) : ((UInt8.ofNat k).toNat : Int) = k := by rw [UInt8.toNat_ofNat']; omega
theorem litk (W : World) (t : TypeId) (k : Nat) (hk : k < 256) {B : Nat} (hB : B = W.heap.size) : Bs (W.alloc (.cells #[.int .u8 (k : Int)] t)) (some ⟨B, 0, none⟩) 1 [UInt8.ofNat k] :=
  Bs.lit t hB [UInt8.ofNat k] rfl (by simp only [bv, List.map_cons, List.map_nil, small_byte k hk])
theorem grown_fs_below {w0 w w' : World} {g : Nat} (hb : Below w0.heap.size w0 w) (hg : w.grownBy w' (some g)) (hgw : w0.heap.size ≤ g) : Below w0.heap.size w0 w' := below_grown hb hg hb.size hgw

set_option maxRecDepth 100000 in
set_option maxHeartbeats 4000000 in
theorem flashErase_walk (s : Int) (A : Option Addr) (n c : Nat) (zs : List Int) (w : World) (hA : Vs w A n (zs.map (Value.int .i64))) (hc0 : n ≤ c) (hc2 : c ≤ 9223372036854775807) :
    Calls Try.prog 6 #[.int .i64 s, .slice A n c] w fun e w' => e = .returned (.bool true) ∧ Below w.heap.size w w' := by
  have hzl : Hid (zs.length = n) := by have := hA.1; rw [List.length_map] at this; exact this
  have ht6 := within_lt s 6 (by omega)
  obtain ⟨zt, hzt⟩ : ∃ zt, Hid (zt = zs.take 20) := ⟨_, rfl⟩
  have hztl : Hid (zt.length = min 20 n) := by show zt.length = min 20 n; rw [hzt.out, List.length_take, hzl.out]
  have hst : Hid (EInv zt 0 0 newF) := einv_start zt
  go_enter Try.func6, Try.ntmps6
  go_upto_region 5 with (first
    | (go_at_call 10; refine Calls.mono (known_any _) ?_; rintro e w1 ⟨rfl, hb1⟩)
    | (go_at_call 11; with_reducible refine Calls.mono (within_any s 6 _ _ rfl (by omega) (by omega)) ?_; rintro r _ ⟨rfl, rfl⟩)
    | (go_at_call 12; refine Calls.mono (new_any _) ?_; rintro r w2 ⟨rfl, hf2, hb2⟩))
  generalize within s 6 = t at ht6 ⊢
  have ht6' : (t : Int) < 6 := by omega
  have ht0 : (0 : Int) ≤ t := by omega
  have hb2w := below_two hb1 hb2
  have hgw : w.heap.size ≤ w1.heap.size := hb1.size
  generalize w1.heap.size = g at hf2 hgw ⊢
  clear hb1 hb2
  go_wp2_with fail
  go_loopw [6] (fun i wr => ∃ (k : Nat) (f : FlashSt), k ≤ 6 ∧ i = .int .i64 k ∧ Below w.heap.size w wr ∧ FS (fun _ => False) wr g f ∧ Hid (EInv zt k 0 f)) (fun i _ => 6 - (intOf i).toNat)
  case atStart => exact ⟨0, newF, by omega, rfl, hb2w, hf2, hst⟩
  case round =>
    clear hb2w hf2 hst
    obtain ⟨k, f, hk, rfl, hbr, hfr, hiv⟩ := hrel
    by_cases hlt : k < 6
    · have hk1 : (k : Int) < 6 := by omega
      have hk0 : (0 : Int) ≤ k := by omega
      go_wp2_with fail
      go_loopw [7] (fun i wr => ∃ (j : Nat) (f : FlashSt), j ≤ n ∧ j ≤ 20 ∧ i = .int .i64 j ∧ Below w.heap.size w wr ∧ FS (fun _ => False) wr g f ∧ Hid (EInv zt k j f)) (fun i _ => 20 - (intOf i).toNat)
      case atStart => exact ⟨0, f, by omega, by omega, rfl, hbr, hfr, hiv⟩
      case round =>
        clear hbr hfr hiv
        obtain ⟨j, f, hjn, hj20, rfl, hbr, hfr, hiv⟩ := hrel
        by_cases hlt2 : j < n ∧ j < 20
        · obtain ⟨hj1, hj2⟩ := hlt2
          have hj1' : (j : Int) < n := by omega
          have hj2' : (j : Int) < 20 := by omega
          have hj0' : (0 : Int) ≤ j := by omega
          obtain ⟨b, o, z, rfl, cz, hz⟩ := elem_at hA hzl.out hj1
          have cz := Keeps.of_below hbr _ _ cz
          have hzz : zt[j]? = some z := by rw [hzt.out, List.getElem?_take, if_pos hj2, hz.out]
          obtain ⟨f', hp, hiv'⟩ := einv_step hiv.out hzz hlt
          have HP := Lib.hid hp
          have HI := Lib.hid hiv'
          have hlit := litk wr 5 k (by omega) rfl
          clear hp hiv' hzz
          go_wp2_with (first
            | (go_at_call 11; with_reducible refine Calls.mono (within_any z 64 _ _ rfl (by omega) (by omega)) ?_; rintro r _ ⟨rfl, rfl⟩)
            | (go_at_call 13; refine Calls.mono (program_any _ g (fun _ h => h.elim) f k (within z 64) _ 1 1 [UInt8.ofNat k] _ (hfr.below ((Below.refl _ _).alloc (Nat.le_refl _) _)) hlit (by omega) (by omega)) ?_; rw [HP.out]; rintro r w3 ⟨rfl, hf3, hg3⟩; have hf3 : FS (fun _ => False) w3 g f' := hf3; have hb3 := below_grown (hbr.alloc hbr.size _) hg3 (Nat.le_trans hbr.size (by simp)) hgw))
          go_roundw
          case rel => exact ⟨j + 1, f', by omega, by omega, by go_num, hb3, hf3, HI⟩
          case measure => simp [intOf]; omega
        · have hjl : j = zt.length := by rw [hztl.out]; omega
          have hiv' := Lib.hid (einv_next (zs := zt) (k := k) (f := f) (by have := hiv.out; rw [hjl] at this; exact this))
          clear hjl
          by_cases hj1 : j < n
          · have hj1' : (j : Int) < n := by omega
            have hj2' : ¬ (j : Int) < 20 := by omega
            go_wp2_with fail
            go_roundw
            case rel => exact ⟨k + 1, f, by omega, by go_num, hbr, hfr, hiv'⟩
            case measure => simp [intOf]; omega
          · have hj1' : ¬ (j : Int) < n := by omega
            go_wp2_with fail
            go_roundw
            case rel => exact ⟨k + 1, f, by omega, by go_num, hbr, hfr, hiv'⟩
            case measure => simp [intOf]; omega
    · obtain rfl : k = 6 := by omega
      obtain ⟨f4, he, hz4⟩ := einv_erase hiv.out ht6
      have HE := Lib.hid he
      have HZ := Lib.hid hz4
      clear he hz4 hiv
      go_upto_region 15 with (go_at_call 16; refine Calls.mono (erase_any _ g (fun _ h => h.elim) f t _ hfr) ?_; rw [HE.out]; rintro r w4 ⟨rfl, hf4, hg4⟩)
      have hf4 : FS (fun _ => False) w4 g f4 := hf4
      have hb4 := below_grown hbr hg4 hbr.size hgw
      clear hfr hbr hg4
      go_wp2_with fail
      go_loopw [8] (fun i wr => ∃ (k : Nat), k ≤ 6 ∧ i = .int .i64 k ∧ Below w4.heap.size w4 wr) (fun i _ => 6 - (intOf i).toNat)
      case atStart => exact ⟨0, by omega, rfl, Below.refl _ _⟩
      case round =>
        obtain ⟨k, hk, rfl, hbr⟩ := hrel
        by_cases hlt : k < 6
        · have hk1 : (k : Int) < 6 := by omega
          have hk0 : (0 : Int) ≤ k := by omega
          go_upto_region 19 with (go_at_call 14; refine Calls.mono (read_any _ g f4 k _ (hf4.below hbr)) ?_; rintro r w5 ⟨A5, n5, c5, rfl, hB5, hn5, hc5, hb5⟩; obtain rfl : n5 = 1024 := by { rw [← hB5.len]; exact zinv_len HZ.out hlt })
          have hb5w := below_two hb4 (below_two hbr hb5)
          have hA5 := hA.below hb5w
          have hbr5 := below_two hbr hb5
          obtain ⟨rb, ro, rfl⟩ := hB5.some_ (by omega)
          clear hb5 hn5
          go_wp2_with fail
          go_loop [10] (fun i => ∃ (x : Nat), x ≤ 1024 ∧ i = .int .i64 x) (fun i => 1024 - (intOf i).toNat)
          case atStart => exact ⟨0, by omega, rfl⟩
          case round =>
            obtain ⟨x, hx, rfl⟩ := hrel
            by_cases hlx : x < 1024
            · have hx1 : (x : Int) < 1024 := by omega
              have hx0 : (0 : Int) ≤ x := by omega
              have hread := zinv_read HZ.out hlt hlx
              obtain ⟨rx, hrv⟩ : ∃ rx, Hid (rx = if k = t then 255 else mark k zt x) := ⟨_, rfl⟩
              rw [← hrv.out] at hread
              obtain ⟨_, _, hRe, cr⟩ := read_cell hB5 hread
              injection hRe with hRe
              injection hRe with e1 e2
              subst e1; subst e2
              clear hread
              go_wp2_with fail
              go_loop [11, 12] (fun wv i => ∃ (j : Nat) (v : UInt8), j ≤ n ∧ j ≤ 20 ∧ i = .int .i64 j ∧ wv = .int .u8 (v.toNat : Int) ∧ Hid (v = if k = t then 255 else mark k (zt.take j) x)) (fun _ i => 20 - (intOf i).toNat)
              case atStart => exact ⟨0, 255, by omega, by omega, rfl, rfl, by show (255 : UInt8) = _; split <;> rfl⟩
              case round =>
                obtain ⟨j, v, hjn, hj20, rfl, rfl, hv⟩ := hrel
                by_cases hkt : k = t
                · subst hkt
                  have hvr : v = rx := by rw [hv.out, hrv.out, if_pos rfl, if_pos rfl]
                  subst hvr
                  clear hv hrv
                  by_cases hj1 : j < n
                  · have hj1' : (j : Int) < n := by omega
                    by_cases hj2 : j < 20
                    · have hj2' : (j : Int) < 20 := by omega
                      go_wp2_with fail
                      go_round
                      case rel => exact ⟨x + 1, by omega, by go_num⟩
                      case measure => simp [intOf]; omega
                    · have hj2' : ¬ (j : Int) < 20 := by omega
                      go_wp2_with fail
                      go_round
                      case rel => exact ⟨x + 1, by omega, by go_num⟩
                      case measure => simp [intOf]; omega
                  · have hj1' : ¬ (j : Int) < n := by omega
                    go_wp2_with fail
                    go_round
                    case rel => exact ⟨x + 1, by omega, by go_num⟩
                    case measure => simp [intOf]; omega
                · have hkt' : ((k : Int) != (t : Int)) = true := by rw [bne_iff_ne]; omega
                  by_cases hlt2 : j < n ∧ j < 20
                  · obtain ⟨hj1, hj2⟩ := hlt2
                    have hj1' : (j : Int) < n := by omega
                    have hj2' : (j : Int) < 20 := by omega
                    have hj0' : (0 : Int) ≤ j := by omega
                    obtain ⟨b, o, z, rfl, cz, hz⟩ := elem_at hA5 hzl.out hj1
                    have hq := within_lt z 64 (by omega)
                    have htk : zt.take (j + 1) = zt.take j ++ [z] := by rw [List.take_add_one, hzt.out, List.getElem?_take, if_pos hj2, hz.out]; rfl
                    have hmk : mark k (zt.take (j + 1)) x = if within z 64 * 16 = x then UInt8.ofNat k else mark k (zt.take j) x := by
                      unfold mark
                      rw [htk, hit_snoc]
                      by_cases he : within z 64 * 16 = x
                      · rw [if_pos he, he, beq_self_eq_true, Bool.or_true, if_pos rfl]
                      · rw [if_neg he, beq_eq_false_iff_ne.2 he, Bool.or_false]
                    have HM := Lib.hid hmk
                    clear hmk htk
                    by_cases he : within z 64 * 16 = x
                    · have he' : ((16 : Int) * ((within z 64 : Nat) : Int) == (x : Int)) = true := by rw [beq_iff_eq]; omega
                      have hsm := small_byte k (by omega)
                      have hv' : Hid (UInt8.ofNat k = if k = t then 255 else mark k (zt.take (j + 1)) x) := by show UInt8.ofNat k = _; rw [if_neg hkt, HM.out, if_pos he]
                      have HS := Lib.hid hsm
                      clear hsm
                      go_wp2_with (go_at_call 11; with_reducible refine Calls.mono (within_any z 64 _ _ rfl (by omega) (by omega)) ?_; rintro r _ ⟨rfl, rfl⟩)
                      go_round
                      case rel => exact ⟨j + 1, UInt8.ofNat k, by omega, by omega, by go_num, by rw [HS.out], hv'⟩
                      case measure => simp [intOf]; omega
                    · have he' : ((16 : Int) * ((within z 64 : Nat) : Int) == (x : Int)) = false := by rw [beq_eq_false_iff_ne]; omega
                      have hv' : Hid (v = if k = t then 255 else mark k (zt.take (j + 1)) x) := by show v = _; rw [hv.out, if_neg hkt, if_neg hkt, HM.out, if_neg he]
                      go_wp2_with (go_at_call 11; with_reducible refine Calls.mono (within_any z 64 _ _ rfl (by omega) (by omega)) ?_; rintro r _ ⟨rfl, rfl⟩)
                      go_round
                      case rel => exact ⟨j + 1, v, by omega, by omega, by go_num, rfl, hv'⟩
                      case measure => simp [intOf]; omega
                  · have hvr : v = rx := by
                      rw [hv.out, hrv.out, if_neg hkt, if_neg hkt, List.take_of_length_le (by rw [hztl.out]; omega)]
                    subst hvr
                    clear hv hrv
                    by_cases hj1 : j < n
                    · have hj1' : (j : Int) < n := by omega
                      have hj2' : ¬ (j : Int) < 20 := by omega
                      go_wp2_with fail
                      go_round
                      case rel => exact ⟨x + 1, by omega, by go_num⟩
                      case measure => simp [intOf]; omega
                    · have hj1' : ¬ (j : Int) < n := by omega
                      go_wp2_with fail
                      go_round
                      case rel => exact ⟨x + 1, by omega, by go_num⟩
                      case measure => simp [intOf]; omega
            · obtain rfl : x = 1024 := by omega
              go_wp2_with fail
              go_roundw
              case rel => exact ⟨k + 1, by omega, by go_num, hbr5⟩
              case measure => simp [intOf]; omega
        · obtain rfl : k = 6 := by omega
          obtain ⟨f6, hp, hr0, hrl⟩ := zinv_last HZ.out ht6
          have HP := Lib.hid hp
          have HR := Lib.hid hr0
          have HL := Lib.hid hrl
          clear hp hr0 hrl
          have hfr := hf4.below hbr
          have hbrw := below_two hb4 hbr
          go_wp2_with (first
            | (go_at_call 13; refine Calls.mono (program_any _ g (fun _ h => h.elim) f4 t 0 _ 1 1 [77] _ (hfr.below ((Below.refl _ _).alloc (Nat.le_refl _) _)) (lit1 wr _ 77 rfl) (by omega) (by omega)) ?_; rw [HP.out]; rintro r w7 ⟨rfl, hf7, hg7⟩; have hf7 : FS (fun _ => False) w7 g f6 := hf7; have hb7 := below_grown (hbrw.alloc hbrw.size _) hg7 (Nat.le_trans hbrw.size (by simp)) hgw)
            | (go_at_call 14; refine Calls.mono (read_any _ g f6 t _ hf7) ?_; rintro r w8 ⟨A8, n8, c8, rfl, hB8, hn8, hc8, hb8⟩; obtain rfl : n8 = 1024 := by { rw [← hB8.len]; exact HL.out }; obtain ⟨b8, o8, rfl, cx8⟩ := read_cell hB8 HR.out; have cx8 : w8.cell? ⟨b8, o8, none⟩ = some (.int .u8 77) := cx8))
          go_ret
          exact ⟨rfl, below_two hb7 hb8⟩
theorem flashErase_top (s : Int) (A : Option Addr) (n c : Nat) (zs : List Int) (w : World) (_ : -9223372036854775808 ≤ s ∧ s ≤ 9223372036854775807) (hA : Vs w A n (zs.map (Value.int .i64))) (hc0 : n ≤ c) (hc2 : c ≤ 140737488351232) (_ : ∀ z ∈ zs, -9223372036854775808 ≤ z ∧ z ≤ 9223372036854775807) :
    Calls Try.prog 6 #[.int .i64 s, .slice A n c] w fun e w' => e = .returned (.bool true) ∧ Below w.heap.size w w' := flashErase_walk s A n c zs w hA hc0 (by omega)
end Go.Proofs.Ytdomdnmjabadiaa
