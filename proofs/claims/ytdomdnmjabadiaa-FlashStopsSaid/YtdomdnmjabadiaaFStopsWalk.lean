/- FlashStops: the walk. -/
import Derived.Test.YtdomdnmjabadiaaStopsPlain
namespace Go.Proofs.Ytdomdnmjabadiaa
open Go.RowKit

theorem elem_atT {w : World} {A : Option Addr} {n j : Nat} {zs : List Int} (hA : Vs w A n (zs.map (Value.int .i64))) (hl : zs.length = n) (hj : j < n) :
    ∃ b o z, A = some ⟨b, o, none⟩ ∧ w.cell? ⟨b, o + j, none⟩ = some (.int .i64 z) ∧ Hid (zs[j]? = some z) := by
  obtain ⟨b, o, e, hc⟩ := hA.at_ hj
  refine ⟨b, o, zs[j]'(by omega), e, ?_, List.getElem?_eq_getElem _⟩
  rw [hc]
  simp
theorem litT (W : World) (t : TypeId) (k : Nat) (hk : k < 256) {B : Nat} (hB : B = W.heap.size) : Bs (W.alloc (.cells #[.int .u8 (k : Int)] t)) (some ⟨B, 0, none⟩) 1 [UInt8.ofNat k] := by
  have h : ((UInt8.ofNat k).toNat : Int) = k := by rw [UInt8.toNat_ofNat']; omega
  exact Bs.lit t hB [UInt8.ofNat k] rfl (by simp only [bv, List.map_cons, List.map_nil, h])

set_option maxRecDepth 100000 in
set_option maxHeartbeats 8000000 in
theorem flashStops_walk (x : Int) (A : Option Addr) (n c : Nat) (zs : List Int) (y : Int) (w : World) (hA : Vs w A n (zs.map (Value.int .i64))) (hc0 : n ≤ c) (hc2 : c ≤ 9223372036854775807) (hzb : ∀ z ∈ zs, -9223372036854775808 ≤ z ∧ z ≤ 9223372036854775807) :
    Calls Try.prog 9 #[.int .i64 x, .slice A n c, .int .i64 y] w fun e w' => e = .returned (.bool true) ∧ Below w.heap.size w w' := by
  have hzl : Hid (zs.length = n) := by have := hA.1; rw [List.length_map] at this; exact this
  have hx10 := within_lt x 10 (by omega)
  go_enter Try.func9, Try.ntmps9
  go_upto_region 4 with (first
    | (go_at_call 10; refine Calls.mono (known_any _) ?_; rintro e w1 ⟨rfl, hb1⟩)
    | (go_at_call 12; refine Calls.mono (new_any _) ?_; rintro r w2 ⟨rfl, hf2, hb2⟩))
  have hb2w := below_two hb1 hb2
  have hgw : w.heap.size ≤ w1.heap.size := hb1.size
  generalize w1.heap.size = g at hf2 hgw ⊢
  have hglt := hf2.lt
  have hf2 : FS (fun b => b ≠ g) w2 g newF := hf2.weak fun _ h => h.elim
  clear hb1 hb2
  go_upto_region 5 with (go_at_call 17; refine Calls.mono (stop_any (fun b => b ≠ g) g newF 3 none 0 0 [] _ hf2 (fun b hb => Nat.ne_of_gt (Nat.lt_of_lt_of_le hglt hb)) (by omega) (Bs.nil _ _) (by omega)) ?_; rintro r w3 ⟨rfl, hf3, hg3⟩)
  have hb3 := below_grown hb2w hg3 hb2w.size hgw
  have hglt3 := hf3.lt
  go_upto_region 6 with (go_at_call 11; with_reducible refine Calls.mono (within_any x 10 _ _ rfl (by omega) (by omega)) ?_; rintro r _ ⟨rfl, rfl⟩)
  generalize within x 10 = a at hx10 ⊢
  have hs : (1 : Int) + (a : Int) = ((1 + a : Nat) : Int) := by omega
  rw [hs]
  clear hs
  have hN : 1 ≤ 1 + a ∧ 1 + a ≤ 10 := by omega
  generalize 1 + a = N at hN ⊢
  clear hx10
  have hstart := Lib.hid (stops_start N (by omega))
  go_upto_region 7 with (go_at_call 17; refine Calls.mono (stop_any (fun b => b ≠ g) g (stopF newF 3 []) (N : Int) _ 1 1 [255] _ (hf3.below ((Below.refl _ _).alloc (Nat.le_refl _) _)) (fun b hb => Nat.ne_of_gt (Nat.lt_of_lt_of_le (Nat.lt_of_lt_of_le hglt3 (by simp)) hb)) (by omega) (lit1 w3 _ 255 rfl) (by omega)) ?_; rintro r w4 ⟨rfl, hf4, hg4⟩)
  have hb4 := below_grown (hb3.alloc hb3.size _) hg4 (Nat.le_trans hb3.size (by simp)) hgw
  generalize stopF (stopF newF 3 []) (N : Int) [255] = f0 at hf4 hstart
  clear hf2 hf3 hg3 hg4 hb3 hb2w hglt hglt3
  go_wp2_with fail
  go_loopw [8, 9] (fun ov iv wr => ∃ (i ops : Nat) (f : FlashSt), i ≤ n ∧ i ≤ 25 ∧ ops ≤ N ∧ ov = .int .i64 ops ∧ iv = .int .i64 i ∧ Below w.heap.size w wr ∧ FS (fun b => b ≠ g) wr g f ∧ Hid (After N ops i f)) (fun _ iv _ => 25 - (intOf iv).toNat)
  case atStart => exact ⟨0, 0, f0, by omega, by omega, by omega, rfl, rfl, hb4, hf4, by show After N 0 0 f0; unfold After; rw [if_pos (by omega)]; exact hstart.out⟩
  case round =>
    clear hb4 hf4 hstart
    obtain ⟨i, ops, f, hin, hi25', hops, rfl, rfl, hbr, hfr, haf⟩ := hrel
    by_cases hlt : i < n ∧ i < 25
    · obtain ⟨hi1, hi25⟩ := hlt
      have hi1' : (i : Int) < n := by omega
      have hi2' : (i : Int) < 25 := by omega
      have hi0' : (0 : Int) ≤ i := by omega
      obtain ⟨b, o, z, rfl, cz0, hz⟩ := elem_atT hA hzl.out hi1
      have hzb := hzb z (List.mem_of_getElem? hz.out)
      have cz := Keeps.of_below hbr _ _ cz0
      clear hz
      have hk4 := within_lt z 4 (by omega)
      obtain ⟨D, hD⟩ : ∃ D, Int.tdiv z 4 = D := ⟨_, rfl⟩
      have hDb : -9223372036854775808 ≤ D ∧ D ≤ 9223372036854775807 := by
        have := Int.natAbs_tdiv z 4
        rw [hD] at this
        have this : D.natAbs = z.natAbs / 4 := this
        omega
      have hs6 := within_lt D 6 (by omega)
      have hlit := litT wr 5 i (by omega) rfl
      have hcase := haf.out
      unfold After at hcase
      by_cases ho : ops < N
      · have hal := hcase
        rw [if_pos ho] at hal
        clear hcase haf
        have hoi : ¬ (N : Int) ≤ ops := by omega
        go_upto_region 14 with (go_at_call 11; with_reducible refine Calls.mono (within_any z 4 _ _ rfl (by omega) (by omega)) ?_; rintro r _ ⟨rfl, rfl⟩)
        generalize hK : ((within z 4 : Nat) : Int) = K
        have hk : K = 0 ∨ K = 1 ∨ K = 2 ∨ K = 3 := by omega
        clear hk4
        rcases hk with rfl | rfl | rfl | rfl
        · obtain ⟨f', hp, haf, hdn⟩ := stops_prog hal ho (by omega) (within D 6) hs6 hi25 (UInt8.ofNat i)
          by_cases hlast : ops + 1 = N
          · rw [if_pos hlast] at hp
            have hl1 : ((ops : Int) + 1 == (N : Int)) = true := by rw [beq_iff_eq]; omega
            have hl2 : ((ops + 1 : Nat) : Int) = (ops : Int) + 1 := by omega
            rw [hl2] at hdn
            have HP := Lib.hid hp
            have HDN := Lib.hid hdn
            have HAF := Lib.hid haf
            clear hp hdn haf hl2
            go_wp2_with (first
              | (go_at_call 11; with_reducible refine Calls.mono (within_any D 6 _ _ rfl (by omega) (by omega)) ?_; rintro r _ ⟨rfl, rfl⟩)
              | (go_at_call 11; with_reducible refine Calls.mono (within_any z 4 _ _ rfl (by omega) (by omega)) ?_; rw [hK]; rintro r _ ⟨rfl, rfl⟩)
              | (go_at_call 13; refine Calls.mono (program_any (fun b => b ≠ g) g (fun _ h => h) f (within D 6 : Nat) i _ 1 1 [UInt8.ofNat i] _ (hfr.below ((Below.refl _ _).alloc (Nat.le_refl _) _)) hlit (by omega) (by omega)) ?_; rw [HP.out]; rintro r w5 ⟨rfl, hf5, hg5⟩; have hf5 : FS (fun b => b ≠ g) w5 g f' := hf5; have cz5 := Keeps.of_below (below_grown (hbr.alloc hbr.size _) hg5 (Nat.le_trans hbr.size (by simp)) hgw) _ _ cz0)
              | (go_at_call 15; refine Calls.mono (ops_any _ g _ _ hf5) ?_; rw [HDN.out]; rintro r _ ⟨rfl, rfl⟩))
            go_roundw
            case rel => exact ⟨i + 1, ops + 1, f', by omega, by omega, by omega, by go_num, by go_num, below_grown (hbr.alloc hbr.size _) hg5 (Nat.le_trans hbr.size (by simp)) hgw, hf5, HAF⟩
            case measure => simp [intOf]; omega
          · rw [if_neg hlast] at hp
            have hl1 : ((ops : Int) + 1 == (N : Int)) = false := by rw [beq_eq_false_iff_ne]; omega
            have hl2 : ((ops + 1 : Nat) : Int) = (ops : Int) + 1 := by omega
            rw [hl2] at hdn
            have HP := Lib.hid hp
            have HDN := Lib.hid hdn
            have HAF := Lib.hid haf
            clear hp hdn haf hl2
            go_wp2_with (first
              | (go_at_call 11; with_reducible refine Calls.mono (within_any D 6 _ _ rfl (by omega) (by omega)) ?_; rintro r _ ⟨rfl, rfl⟩)
              | (go_at_call 11; with_reducible refine Calls.mono (within_any z 4 _ _ rfl (by omega) (by omega)) ?_; rw [hK]; rintro r _ ⟨rfl, rfl⟩)
              | (go_at_call 13; refine Calls.mono (program_any (fun b => b ≠ g) g (fun _ h => h) f (within D 6 : Nat) i _ 1 1 [UInt8.ofNat i] _ (hfr.below ((Below.refl _ _).alloc (Nat.le_refl _) _)) hlit (by omega) (by omega)) ?_; rw [HP.out]; rintro r w5 ⟨rfl, hf5, hg5⟩; have hf5 : FS (fun b => b ≠ g) w5 g f' := hf5; have cz5 := Keeps.of_below (below_grown (hbr.alloc hbr.size _) hg5 (Nat.le_trans hbr.size (by simp)) hgw) _ _ cz0)
              | (go_at_call 15; refine Calls.mono (ops_any _ g _ _ hf5) ?_; rw [HDN.out]; rintro r _ ⟨rfl, rfl⟩))
            go_roundw
            case rel => exact ⟨i + 1, ops + 1, f', by omega, by omega, by omega, by go_num, by go_num, below_grown (hbr.alloc hbr.size _) hg5 (Nat.le_trans hbr.size (by simp)) hgw, hf5, HAF⟩
            case measure => simp [intOf]; omega
        · obtain ⟨f', hp, haf, hdn⟩ := stops_erase hal ho (by omega) (within D 6) hs6
          by_cases hlast : ops + 1 = N
          · rw [if_pos hlast] at hp
            have hl1 : ((ops : Int) + 1 == (N : Int)) = true := by rw [beq_iff_eq]; omega
            have hl2 : ((ops + 1 : Nat) : Int) = (ops : Int) + 1 := by omega
            rw [hl2] at hdn
            have HP := Lib.hid hp
            have HDN := Lib.hid hdn
            have HAF := Lib.hid haf
            clear hp hdn haf hl2
            go_wp2_with (first
              | (go_at_call 11; with_reducible refine Calls.mono (within_any D 6 _ _ rfl (by omega) (by omega)) ?_; rintro r _ ⟨rfl, rfl⟩)
              | (go_at_call 11; with_reducible refine Calls.mono (within_any z 4 _ _ rfl (by omega) (by omega)) ?_; rw [hK]; rintro r _ ⟨rfl, rfl⟩)
              | (go_at_call 16; refine Calls.mono (erase_any (fun b => b ≠ g) g (fun _ h => h) f (within D 6 : Nat) _ hfr) ?_; rw [HP.out]; rintro r w5 ⟨rfl, hf5, hg5⟩; have hf5 : FS (fun b => b ≠ g) w5 g f' := hf5; have cz5 := Keeps.of_below (below_grown hbr hg5 hbr.size hgw) _ _ cz0)
              | (go_at_call 15; refine Calls.mono (ops_any _ g _ _ hf5) ?_; rw [HDN.out]; rintro r _ ⟨rfl, rfl⟩))
            go_roundw
            case rel => exact ⟨i + 1, ops + 1, f', by omega, by omega, by omega, by go_num, by go_num, below_grown hbr hg5 hbr.size hgw, hf5, HAF⟩
            case measure => simp [intOf]; omega
          · rw [if_neg hlast] at hp
            have hl1 : ((ops : Int) + 1 == (N : Int)) = false := by rw [beq_eq_false_iff_ne]; omega
            have hl2 : ((ops + 1 : Nat) : Int) = (ops : Int) + 1 := by omega
            rw [hl2] at hdn
            have HP := Lib.hid hp
            have HDN := Lib.hid hdn
            have HAF := Lib.hid haf
            clear hp hdn haf hl2
            go_wp2_with (first
              | (go_at_call 11; with_reducible refine Calls.mono (within_any D 6 _ _ rfl (by omega) (by omega)) ?_; rintro r _ ⟨rfl, rfl⟩)
              | (go_at_call 11; with_reducible refine Calls.mono (within_any z 4 _ _ rfl (by omega) (by omega)) ?_; rw [hK]; rintro r _ ⟨rfl, rfl⟩)
              | (go_at_call 16; refine Calls.mono (erase_any (fun b => b ≠ g) g (fun _ h => h) f (within D 6 : Nat) _ hfr) ?_; rw [HP.out]; rintro r w5 ⟨rfl, hf5, hg5⟩; have hf5 : FS (fun b => b ≠ g) w5 g f' := hf5; have cz5 := Keeps.of_below (below_grown hbr hg5 hbr.size hgw) _ _ cz0)
              | (go_at_call 15; refine Calls.mono (ops_any _ g _ _ hf5) ?_; rw [HDN.out]; rintro r _ ⟨rfl, rfl⟩))
            go_roundw
            case rel => exact ⟨i + 1, ops + 1, f', by omega, by omega, by omega, by go_num, by go_num, below_grown hbr hg5 hbr.size hgw, hf5, HAF⟩
            case measure => simp [intOf]; omega
        · have HP := Lib.hid (prog_addr f 7 0 [] hal.dead (by omega))
          have HDN := Lib.hid hal.done
          have hl1 : ((ops : Int) == (N : Int)) = false := by rw [beq_eq_false_iff_ne]; omega
          have HAF : Hid (After N ops (i + 1) f) := by show After N ops (i + 1) f; unfold After; rw [if_pos ho]; exact stops_none hal
          go_wp2_with (first
            | (go_at_call 13; refine Calls.mono (program_any (fun b => b ≠ g) g (fun _ h => h) f 7 0 none 0 0 [] _ hfr (Bs.nil _ _) (by omega) (by omega)) ?_; rw [HP.out]; rintro r w5 ⟨rfl, hf5, hg5⟩; have hf5 : FS (fun b => b ≠ g) w5 g f := hf5)
            | (go_at_call 15; refine Calls.mono (ops_any _ g _ _ hf5) ?_; rw [HDN.out]; rintro r _ ⟨rfl, rfl⟩))
          go_roundw
          case rel => exact ⟨i + 1, ops, f, by omega, by omega, by omega, by go_num, by go_num, below_grown hbr hg5 hbr.size hgw, hf5, HAF⟩
          case measure => simp [intOf]; omega
        · have HP := Lib.hid (prog_addr f 0 64 [] hal.dead (by omega))
          have HDN := Lib.hid hal.done
          have hl1 : ((ops : Int) == (N : Int)) = false := by rw [beq_eq_false_iff_ne]; omega
          have HAF : Hid (After N ops (i + 1) f) := by show After N ops (i + 1) f; unfold After; rw [if_pos ho]; exact stops_none hal
          go_wp2_with (first
            | (go_at_call 13; refine Calls.mono (program_any (fun b => b ≠ g) g (fun _ h => h) f 0 64 none 0 0 [] _ hfr (Bs.nil _ _) (by omega) (by omega)) ?_; rw [HP.out]; rintro r w5 ⟨rfl, hf5, hg5⟩; have hf5 : FS (fun b => b ≠ g) w5 g f := hf5)
            | (go_at_call 15; refine Calls.mono (ops_any _ g _ _ hf5) ?_; rw [HDN.out]; rintro r _ ⟨rfl, rfl⟩))
          go_roundw
          case rel => exact ⟨i + 1, ops, f, by omega, by omega, by omega, by go_num, by go_num, below_grown hbr hg5 hbr.size hgw, hf5, HAF⟩
          case measure => simp [intOf]; omega
      · rw [if_neg ho] at hcase
        obtain rfl : N = ops := by omega
        have hdd := hcase.1.1
        have HAF : Hid (After N N (i + 1) f) := by show After N N (i + 1) f; unfold After; rw [if_neg (by omega)]; exact hcase
        clear hcase haf
        have hoi : (N : Int) ≤ N := by omega
        go_upto_region 14 with (go_at_call 11; with_reducible refine Calls.mono (within_any z 4 _ _ rfl (by omega) (by omega)) ?_; rintro r _ ⟨rfl, rfl⟩)
        generalize hK : ((within z 4 : Nat) : Int) = K
        have hk : K = 0 ∨ K = 1 ∨ K = 2 ∨ K = 3 := by omega
        clear hk4
        rcases hk with rfl | rfl | rfl | rfl
        · have HP := Lib.hid (prog_dead f (within D 6 : Nat) i [UInt8.ofNat i] hdd)
          have HDD := Lib.hid hdd
          go_wp2_with (first
            | (go_at_call 11; with_reducible refine Calls.mono (within_any D 6 _ _ rfl (by omega) (by omega)) ?_; rintro r _ ⟨rfl, rfl⟩)
            | (go_at_call 13; refine Calls.mono (program_any (fun b => b ≠ g) g (fun _ h => h) f (within D 6 : Nat) i _ 1 1 [UInt8.ofNat i] _ (hfr.below ((Below.refl _ _).alloc (Nat.le_refl _) _)) hlit (by omega) (by omega)) ?_; rw [HP.out]; rintro r w5 ⟨rfl, hf5, hg5⟩; have hf5 : FS (fun b => b ≠ g) w5 g f := hf5)
            | (go_at_call 18; refine Calls.mono (dead_any _ g _ _ hf5) ?_; rw [HDD.out]; rintro r _ ⟨rfl, rfl⟩))
          go_roundw
          case rel => exact ⟨i + 1, N, f, by omega, by omega, by omega, by go_num, by go_num, below_grown (hbr.alloc hbr.size _) hg5 (Nat.le_trans hbr.size (by simp)) hgw, hf5, HAF⟩
          case measure => simp [intOf]; omega
        · have HP := Lib.hid (erase_dead f (within D 6 : Nat) hdd)
          have HDD := Lib.hid hdd
          go_wp2_with (first
            | (go_at_call 11; with_reducible refine Calls.mono (within_any D 6 _ _ rfl (by omega) (by omega)) ?_; rintro r _ ⟨rfl, rfl⟩)
            | (go_at_call 16; refine Calls.mono (erase_any (fun b => b ≠ g) g (fun _ h => h) f (within D 6 : Nat) _ hfr) ?_; rw [HP.out]; rintro r w5 ⟨rfl, hf5, hg5⟩; have hf5 : FS (fun b => b ≠ g) w5 g f := hf5)
            | (go_at_call 18; refine Calls.mono (dead_any _ g _ _ hf5) ?_; rw [HDD.out]; rintro r _ ⟨rfl, rfl⟩))
          go_roundw
          case rel => exact ⟨i + 1, N, f, by omega, by omega, by omega, by go_num, by go_num, below_grown hbr hg5 hbr.size hgw, hf5, HAF⟩
          case measure => simp [intOf]; omega
        · have HP := Lib.hid (prog_dead f 7 0 [] hdd)
          have HDD := Lib.hid hdd
          go_wp2_with (first
            | (go_at_call 13; refine Calls.mono (program_any (fun b => b ≠ g) g (fun _ h => h) f 7 0 none 0 0 [] _ hfr (Bs.nil _ _) (by omega) (by omega)) ?_; rw [HP.out]; rintro r w5 ⟨rfl, hf5, hg5⟩; have hf5 : FS (fun b => b ≠ g) w5 g f := hf5)
            | (go_at_call 18; refine Calls.mono (dead_any _ g _ _ hf5) ?_; rw [HDD.out]; rintro r _ ⟨rfl, rfl⟩))
          go_roundw
          case rel => exact ⟨i + 1, N, f, by omega, by omega, by omega, by go_num, by go_num, below_grown hbr hg5 hbr.size hgw, hf5, HAF⟩
          case measure => simp [intOf]; omega
        · have HP := Lib.hid (prog_dead f 0 64 [] hdd)
          have HDD := Lib.hid hdd
          go_wp2_with (first
            | (go_at_call 13; refine Calls.mono (program_any (fun b => b ≠ g) g (fun _ h => h) f 0 64 none 0 0 [] _ hfr (Bs.nil _ _) (by omega) (by omega)) ?_; rw [HP.out]; rintro r w5 ⟨rfl, hf5, hg5⟩; have hf5 : FS (fun b => b ≠ g) w5 g f := hf5)
            | (go_at_call 18; refine Calls.mono (dead_any _ g _ _ hf5) ?_; rw [HDD.out]; rintro r _ ⟨rfl, rfl⟩))
          go_roundw
          case rel => exact ⟨i + 1, N, f, by omega, by omega, by omega, by go_num, by go_num, below_grown hbr hg5 hbr.size hgw, hf5, HAF⟩
          case measure => simp [intOf]; omega
    · by_cases hi1 : i < n
      · have hi1' : (i : Int) < n := by omega
        have hi2' : ¬ (i : Int) < 25 := by omega
        go_upto_region 33 with (go_at_call 19; refine Calls.mono (start_any _ g f _ hfr) ?_; rintro r w7 ⟨rfl, hf7, hg7⟩)
        have hb7 := below_grown hbr hg7 hbr.size hgw
        have hw3 := within_lt y 3 (by omega)
        refine wp_region_fresh_tail 6 [Is (.pointer (some ⟨g, 0, none⟩)), Is (.pointer (some ⟨g, 0, none⟩)), Is (.pointer (some ⟨g, 0, none⟩)), Is (.int .i64 y), Is (.int .i64 ((within y 3 : Nat) : Int)), Is (.int .i64 (((within y 3 : Nat) : Int) - 2))]
          [[(7, none)], [(120, some 0)], [(121, some 1)], [(2, none)], [(123, some 3)], [(124, some 4)]]
          (by kernel_rfl) (by kernel_rfl) (by kernel_rfl) (by kernel_rfl)
          ⟨mono_is _, mono_is _, mono_is _, mono_is _, mono_is _, mono_is _, trivial⟩ ?vc ?fin
        case vc =>
          refine ⟨?_, ?_, ?_, ?_, ?_, ?_, trivial⟩
          · exact vf_none rfl (f_mov (.inl rfl) fun A W _ h => h.1)
          · refine vf_none rfl (f_run fun A' W hR h => ?_)
            obtain ⟨h120, _⟩ := h
            replace h120 : A'.tmps[120]?.getD undef = _ := h120
            refine ⟨_, W, ?_, Below.refl _ _, rfl⟩
            go_simp
          · refine vf_none rfl (f_run fun A' W hR h => ?_)
            obtain ⟨h121, _⟩ := h
            replace h121 : A'.tmps[121]?.getD undef = _ := h121
            refine ⟨_, W, ?_, Below.refl _ _, rfl⟩
            go_simp
          · exact vf_none rfl (f_mov (.inl rfl) fun A W _ h => h.1)
          · refine vf_none rfl (f_call rfl Try.func11 rfl (by kernel_rfl) fun A' W hR h => ?_)
            obtain ⟨h123, _⟩ := h
            replace h123 : A'.tmps[123]?.getD undef = _ := h123
            show Calls _ _ #[A'.tmps[123]?.getD undef, _] _ _
            rw [h123]
            refine Calls.mono (within_any y 3 _ _ rfl (by omega) (by omega)) ?_
            rintro r W' ⟨rfl, rfl⟩
            exact ⟨_, rfl, Below.refl _ _, rfl⟩
          · refine vf_none rfl (f_run fun A' W hR h => ?_)
            obtain ⟨h124, _⟩ := h
            replace h124 : A'.tmps[124]?.getD undef = _ := h124
            refine ⟨_, W, ?_, Below.refl _ _, rfl⟩
            go_simp
            all_goals exact IntWalk.i64_in _ (by omega)
        case fin =>
          intro A' W hd hs hR he hr
          obtain ⟨e0, e1, e2, e3, e4, e5, _⟩ := he
          have hA' := act_after [120, 121, 122, 123, 124, 125] rfl hd hs hr
          clear hd hs hr
          replace e0 : A'.tmps[120]?.getD undef = _ := e0
          replace e1 : A'.tmps[121]?.getD undef = _ := e1
          replace e2 : A'.tmps[122]?.getD undef = _ := e2
          replace e3 : A'.tmps[123]?.getD undef = _ := e3
          replace e4 : A'.tmps[124]?.getD undef = _ := e4
          replace e5 : A'.tmps[125]?.getD undef = _ := e5
          simp only [frameAfter, List.contains_cons, List.contains_nil, Nat.reduceBEq, Bool.or_false, Bool.or_true, Bool.or_self, Bool.false_or, Bool.true_or, Bool.false_eq_true, if_true, if_false, Nat.reduceAdd, e0, e1, e2, e3, e4, e5] at hA'
          subst hA'
          clear e0 e1 e2 e3 e4 e5
          have hfW := hf7.below hR
          have hbW := below_then hb7 hR hb7.size
          have hglt := hfW.lt
          go_upto_region 34 with (go_at_call 17; refine Calls.mono (stop_any (fun b => b ≠ g) g (startF f) (((within y 3 : Nat) : Int) - 2) none 0 0 [] _ hfW (fun b hb => Nat.ne_of_gt (Nat.lt_of_lt_of_le hglt hb)) (by omega) (Bs.nil _ _) (by omega)) ?_; rintro r w8 ⟨rfl, hf8, hg8⟩)
          have hb8 := below_grown hbW hg8 hbW.size hgw
          have hleft : (stopF (startF f) (((within y 3 : Nat) : Int) - 2) []).left = 0 := by show max (((within y 3 : Nat) : Int) - 2) 0 = 0; omega
          have hdd8 : (stopF (startF f) (((within y 3 : Nat) : Int) - 2) []).dead = false := rfl
          generalize stopF (startF f) (((within y 3 : Nat) : Int) - 2) [] = f8 at hf8 hleft hdd8
          have HE0 : Hid (eraseF f8 (0 : Int) = (0, doneE f8 0)) := erase_ok f8 0 hdd8 hleft (by omega)
          have HE1 : Hid (eraseF (doneE f8 0) (1 : Int) = (0, doneE (doneE f8 0) 1)) := erase_ok (doneE f8 0) 1 rfl rfl (by omega)
          generalize hg9 : doneE f8 0 = f9 at HE0 HE1
          generalize doneE f9 1 = f10 at HE1
          clear hg9
          go_wp2_with (first
            | (go_at_call 18; refine Calls.mono (dead_any _ g f8 _ hf8) ?_; rw [hdd8]; rintro r _ ⟨rfl, rfl⟩)
            | (go_at_call 16; with_reducible refine Calls.mono (erase_any (fun b => b ≠ g) g (fun _ h => h) f9 1 _ hf9) ?_; rw [HE1.out]; rintro r w10 ⟨rfl, hf10, hg10⟩)
            | (go_at_call 16; with_reducible refine Calls.mono (erase_any (fun b => b ≠ g) g (fun _ h => h) f8 0 _ hf8) ?_; rw [HE0.out]; rintro r w9 ⟨rfl, hf9, hg9⟩; have hf9 : FS (fun b => b ≠ g) w9 g f9 := hf9))
          go_ret
          exact ⟨rfl, below_grown (below_grown hb8 hg9 hb8.size hgw) hg10 (Nat.le_trans hb8.size hg9.size) hgw⟩
      · have hi1' : ¬ (i : Int) < n := by omega
        go_upto_region 33 with (go_at_call 19; refine Calls.mono (start_any _ g f _ hfr) ?_; rintro r w7 ⟨rfl, hf7, hg7⟩)
        have hb7 := below_grown hbr hg7 hbr.size hgw
        have hw3 := within_lt y 3 (by omega)
        refine wp_region_fresh_tail 6 [Is (.pointer (some ⟨g, 0, none⟩)), Is (.pointer (some ⟨g, 0, none⟩)), Is (.pointer (some ⟨g, 0, none⟩)), Is (.int .i64 y), Is (.int .i64 ((within y 3 : Nat) : Int)), Is (.int .i64 (((within y 3 : Nat) : Int) - 2))]
          [[(7, none)], [(120, some 0)], [(121, some 1)], [(2, none)], [(123, some 3)], [(124, some 4)]]
          (by kernel_rfl) (by kernel_rfl) (by kernel_rfl) (by kernel_rfl)
          ⟨mono_is _, mono_is _, mono_is _, mono_is _, mono_is _, mono_is _, trivial⟩ ?vc ?fin
        case vc =>
          refine ⟨?_, ?_, ?_, ?_, ?_, ?_, trivial⟩
          · exact vf_none rfl (f_mov (.inl rfl) fun A W _ h => h.1)
          · refine vf_none rfl (f_run fun A' W hR h => ?_)
            obtain ⟨h120, _⟩ := h
            replace h120 : A'.tmps[120]?.getD undef = _ := h120
            refine ⟨_, W, ?_, Below.refl _ _, rfl⟩
            go_simp
          · refine vf_none rfl (f_run fun A' W hR h => ?_)
            obtain ⟨h121, _⟩ := h
            replace h121 : A'.tmps[121]?.getD undef = _ := h121
            refine ⟨_, W, ?_, Below.refl _ _, rfl⟩
            go_simp
          · exact vf_none rfl (f_mov (.inl rfl) fun A W _ h => h.1)
          · refine vf_none rfl (f_call rfl Try.func11 rfl (by kernel_rfl) fun A' W hR h => ?_)
            obtain ⟨h123, _⟩ := h
            replace h123 : A'.tmps[123]?.getD undef = _ := h123
            show Calls _ _ #[A'.tmps[123]?.getD undef, _] _ _
            rw [h123]
            refine Calls.mono (within_any y 3 _ _ rfl (by omega) (by omega)) ?_
            rintro r W' ⟨rfl, rfl⟩
            exact ⟨_, rfl, Below.refl _ _, rfl⟩
          · refine vf_none rfl (f_run fun A' W hR h => ?_)
            obtain ⟨h124, _⟩ := h
            replace h124 : A'.tmps[124]?.getD undef = _ := h124
            refine ⟨_, W, ?_, Below.refl _ _, rfl⟩
            go_simp
            all_goals exact IntWalk.i64_in _ (by omega)
        case fin =>
          intro A' W hd hs hR he hr
          obtain ⟨e0, e1, e2, e3, e4, e5, _⟩ := he
          have hA' := act_after [120, 121, 122, 123, 124, 125] rfl hd hs hr
          clear hd hs hr
          replace e0 : A'.tmps[120]?.getD undef = _ := e0
          replace e1 : A'.tmps[121]?.getD undef = _ := e1
          replace e2 : A'.tmps[122]?.getD undef = _ := e2
          replace e3 : A'.tmps[123]?.getD undef = _ := e3
          replace e4 : A'.tmps[124]?.getD undef = _ := e4
          replace e5 : A'.tmps[125]?.getD undef = _ := e5
          simp only [frameAfter, List.contains_cons, List.contains_nil, Nat.reduceBEq, Bool.or_false, Bool.or_true, Bool.or_self, Bool.false_or, Bool.true_or, Bool.false_eq_true, if_true, if_false, Nat.reduceAdd, e0, e1, e2, e3, e4, e5] at hA'
          subst hA'
          clear e0 e1 e2 e3 e4 e5
          have hfW := hf7.below hR
          have hbW := below_then hb7 hR hb7.size
          have hglt := hfW.lt
          go_upto_region 34 with (go_at_call 17; refine Calls.mono (stop_any (fun b => b ≠ g) g (startF f) (((within y 3 : Nat) : Int) - 2) none 0 0 [] _ hfW (fun b hb => Nat.ne_of_gt (Nat.lt_of_lt_of_le hglt hb)) (by omega) (Bs.nil _ _) (by omega)) ?_; rintro r w8 ⟨rfl, hf8, hg8⟩)
          have hb8 := below_grown hbW hg8 hbW.size hgw
          have hleft : (stopF (startF f) (((within y 3 : Nat) : Int) - 2) []).left = 0 := by show max (((within y 3 : Nat) : Int) - 2) 0 = 0; omega
          have hdd8 : (stopF (startF f) (((within y 3 : Nat) : Int) - 2) []).dead = false := rfl
          generalize stopF (startF f) (((within y 3 : Nat) : Int) - 2) [] = f8 at hf8 hleft hdd8
          have HE0 : Hid (eraseF f8 (0 : Int) = (0, doneE f8 0)) := erase_ok f8 0 hdd8 hleft (by omega)
          have HE1 : Hid (eraseF (doneE f8 0) (1 : Int) = (0, doneE (doneE f8 0) 1)) := erase_ok (doneE f8 0) 1 rfl rfl (by omega)
          generalize hg9 : doneE f8 0 = f9 at HE0 HE1
          generalize doneE f9 1 = f10 at HE1
          clear hg9
          go_wp2_with (first
            | (go_at_call 18; refine Calls.mono (dead_any _ g f8 _ hf8) ?_; rw [hdd8]; rintro r _ ⟨rfl, rfl⟩)
            | (go_at_call 16; with_reducible refine Calls.mono (erase_any (fun b => b ≠ g) g (fun _ h => h) f9 1 _ hf9) ?_; rw [HE1.out]; rintro r w10 ⟨rfl, hf10, hg10⟩)
            | (go_at_call 16; with_reducible refine Calls.mono (erase_any (fun b => b ≠ g) g (fun _ h => h) f8 0 _ hf8) ?_; rw [HE0.out]; rintro r w9 ⟨rfl, hf9, hg9⟩; have hf9 : FS (fun b => b ≠ g) w9 g f9 := hf9))
          go_ret
          exact ⟨rfl, below_grown (below_grown hb8 hg9 hb8.size hgw) hg10 (Nat.le_trans hb8.size hg9.size) hgw⟩
theorem flashStops_top (x : Int) (A : Option Addr) (n c : Nat) (zs : List Int) (y : Int) (w : World) (_ : -9223372036854775808 ≤ x ∧ x ≤ 9223372036854775807) (hA : Vs w A n (zs.map (Value.int .i64))) (hc0 : n ≤ c) (hc2 : c ≤ 140737488351232) (hzb : ∀ z ∈ zs, -9223372036854775808 ≤ z ∧ z ≤ 9223372036854775807) (_ : -9223372036854775808 ≤ y ∧ y ≤ 9223372036854775807) :
    Calls Try.prog 9 #[.int .i64 x, .slice A n c, .int .i64 y] w fun e w' => e = .returned (.bool true) ∧ Below w.heap.size w w' := flashStops_walk x A n c zs y w hA hc0 (by omega) hzb
end Go.Proofs.Ytdomdnmjabadiaa
