/- CrcLines: the walk. -/
import Derived.Test.YtdbjclpjplkkfaaChecked
import Derived.Test.YtdbjclpjplkkfaaCrcSum
import Derived.Test.YtdbjclpjplkkfaaCrcKnown
import Derived.Test.YtdbjclpjplkkfaaRegion
import Derived.WalkLawsBesides
import Derived.Deep.RegionHeld3
import Derived.Deep.DeepCutAuto
namespace Go.Proofs.Ytdbjclpjplkkfaa
open Go.RowKit

theorem byteInfo' : (Try.prog.info? 5).map (fun i => (i.zero, i.size, i.bytes)) = some (some (.int .u8 0), 1, 1) := by kernel_rfl

/-- make([]byte, n) -/
theorem makeBytes (n : Nat) (hn : n ≤ 140737488355328) (W : World) :
    (Instr.makeSlice 25 (.int .i64 (n : Int)) (.int .i64 (n : Int))).run Try.prog W = .ok (.slice (some ⟨W.heap.size, 0, none⟩) n n) (W.alloc (.cells (bv (List.replicate n 0)).toArray 5)) := by
  obtain ⟨i0, hi0, hz0, hz1, hz2⟩ := info_parts byteInfo'
  have hr := run_make (P := Try.prog) W 25 5 i0 (.int .u8 0) Try.underlying25 hi0 hz0 .i64 .i64 n n (by omega) (by omega) (by rw [hz2]; omega) (by omega)
  simp only [Int.toNat_natCast, hz1, Nat.mul_one, Value.cells] at hr
  rw [hr]
  congr 3
  apply Array.toList_inj.1
  rw [toList_madeCells_one]
  simp [bv]

set_option maxRecDepth 100000 in
set_option maxHeartbeats 1000000 in
theorem crcLines_walk (A B : Option Addr) (n c m d r : Nat) (l k : List UInt8) (w : World) (hA : Bs w A n l) (hB : Bs w B m k) (hn : n ≤ c) (hc : c ≤ 9223372036854775807) (hm : m ≤ d) (hd : d ≤ 9223372036854775807)
    (hrn : r ≤ n) (hrm : r ≤ m) (hr2 : r ≤ 200) (hr : r = n ∨ r = m ∨ r = 200) :
    Calls Try.prog 5 #[.slice A n c, .slice B m d] w fun e w' => e = .returned (.bool true) ∧ Below w.heap.size w w' := by
  have hmk := makeBytes r (by omega)
  have Hr := Lib.hid hr; clear hr
  go_enter Try.func5, Try.ntmps5
  go_upto_region 3 with (go_at_call 9; refine Calls.mono (known_any _) ?_; rintro e w1 ⟨rfl, hb1⟩; skip)
  go_cut [5] (fun s5 wx => s5 = .int .i64 (r : Int) ∧ wx = w1)
  case first =>
    go_wp2
    all_goals
      go_meet
      refine ⟨congrArg _ ?_, rfl⟩
      have := Hr.out
      omega
  case rest =>
    obtain ⟨rfl, rfl⟩ := hcut
    clear Hr
    go_upto_region 4 with fail
    go_cut [6, 7] (fun s6 s7 wx => ∃ gx gz, gx ≠ gz ∧ s6 = .slice (some ⟨gx, 0, none⟩) r r ∧ s7 = .slice (some ⟨gz, 0, none⟩) r r ∧ wx.heap[gx]? = some (.cells (bv (List.replicate r 0)).toArray 5 (0, 0)) ∧ wx.heap[gz]? = some (.cells (bv (List.replicate r 0)).toArray 5 (0, 0)) ∧
      w.heap.size ≤ gx ∧ w.heap.size ≤ gz ∧ Below wc.heap.size wc wx)
    case first =>
      go_region
      all_goals
        go_wp2_with fail
        go_meet
        refine ⟨_, _, ?_, rfl, rfl, ?_, ?_, ?_, ?_, below_drewN' (((Below.refl _ wc).alloc (Nat.le_refl _) _).alloc (by simp) _) 1⟩
        · simp
        · first
            | exact (two_new _ _ _).1
            | exact (two_new _ _ _).2
        · first
            | exact (two_new _ _ _).1
            | exact (two_new _ _ _).2
        · have := hb1.size; simp; try omega
        · have := hb1.size; simp; try omega
    case rest =>
      obtain ⟨gx, gz, hne, rfl, rfl, hx, hz, hgx, hgz, hb2⟩ := hcut
      have hA3 := hA.to_ hrn
      have hB3 := hB.to_ hrm
      generalize hl : l.take r = lr at hA3
      generalize hk : k.take r = kr at hB3
      have Hl := Lib.hid hl; clear hl
      have Hk := Lib.hid hk; clear hk
      have hbw := below_two hb1 hb2
      clear hA hB hb2
      go_wp2
      go_loopw [8] (fun i wr => ∃ j : Nat, j ≤ r ∧ i = .int .i64 j ∧ wr.heap[gx]? = some (.cells (bv (xorRow lr kr r j)).toArray 5 (0, 0)) ∧
        wr.heap[gz]? = some (.cells (bv (List.replicate r 0)).toArray 5 (0, 0)) ∧ Below w.heap.size w wr) (fun i _ => r - (intOf i).toNat)
      case atStart => exact ⟨0, Nat.zero_le _, rfl, by rw [xorRow_zero]; exact hx, hz, hbw⟩
      case round =>
        obtain ⟨j, hj, rfl, hX, hZ, hbr⟩ := hrel
        by_cases hlt : j < r
        · obtain ⟨pb, po, x, rfl, lA, cA, tA, gA⟩ := hA3.nextB hbr hlt
          obtain ⟨qb, qo, y, rfl, lB, cB, tB, gB⟩ := hB3.nextB hbr hlt
          have hjz : (0 : Int) ≤ (j : Int) := by omega
          have hjr : (j : Int) < (r : Int) := by omega
          have hjn : (j : Int) < (n : Int) := by omega
          have hjm : (j : Int) < (m : Int) := by omega
          have e1 := hA3.len
          have e2 := hB3.len
          have hcx : wr.cell? ⟨gx, j, none⟩ = some (.int .u8 0) := cell_of_block hX (bv_at (xorRow_at lr kr r j e1 e2 hlt))
          have hfx : wr.frozen? ⟨gx, j, none⟩ = false := free_of_block hX
          have n1 : pb ≠ gx := by omega
          have n2 : qb ≠ gx := by omega
          have HX := Lib.hid hX; clear hX
          have HZ := Lib.hid hZ; clear hZ
          have E1 := Lib.hid e1; clear e1
          have E2 := Lib.hid e2; clear e2
          have k1 : ∀ u, (wr.setCell ⟨gx, j, none⟩ u).cell? ⟨pb, po + j, none⟩ = some (.int .u8 (x.toNat : Int)) := fun u => cell_far cA n1
          have k2 : ∀ u, (wr.setCell ⟨gx, j, none⟩ u).cell? ⟨qb, qo + j, none⟩ = some (.int .u8 (y.toNat : Int)) := fun u => cell_far cB n2
          go_wp2
          go_region_held3 (fun w' => w'.cell? ⟨pb, po + j, none⟩ = some (.int .u8 (x.toNat : Int)) ∧ w'.cell? ⟨qb, qo + j, none⟩ = some (.int .u8 (y.toNat : Int))) (go_keep) (fail)
          go_wp2
          go_roundw
          case rel =>
            refine ⟨j + 1, by omega, by go_num, ?_, ?_, ?_⟩
            · rw [← xorRow_set lr kr r j x y E1.out E2.out hlt gA.out gB.out, ← bv_set, u8_xor_nat _ _ (byte_lt x) (byte_lt y), ← UInt8.toNat_xor]
              exact block_setCell _ HX.out
            · exact block_setCell_far _ HZ.out (Ne.symm hne)
            · exact (hbr.setCell (p := ⟨gx, j, none⟩) hgx _).drew
          case measure => simp [intOf]; omega
        · obtain rfl : j = r := by omega
          have e1 := hA3.len
          have e2 := hB3.len
          rw [xorRow_end lr kr j e1 e2] at hX
          have fin := crc_lines lr kr (by omega)
          rw [e1] at fin
          generalize hrow : List.zipWith (· ^^^ ·) lr kr = row at hX fin
          have hrl : row.length = j := by rw [← hrow]; simp; omega
          clear hrow
          have bA : Bs wr A j lr := hA3.keep (.of_below hbr)
          have bB : Bs wr B j kr := hB3.keep (.of_below hbr)
          have bX : Bs wr (some ⟨gx, 0, none⟩) j row := by
            have := Vs.lit (n := j) hX (by simp [bv, hrl])
            simpa [Bs] using this
          have bZ : Bs wr (some ⟨gz, 0, none⟩) j (List.replicate j 0) := by
            have := Vs.lit (n := j) hZ (by simp [bv])
            simpa [Bs] using this
          generalize List.replicate j (0 : UInt8) = zs at bZ fin
          clear hX hZ e1 e2 hrl hx hz hA3 hB3
          have Fin := Lib.hid fin; clear fin
          have hjn : (j : Int) ≤ c := by omega
          have hjm : (j : Int) ≤ d := by omega
          have hj0 : (0 : Int) ≤ j := by omega
          go_wp2
          refine wp_region_fresh [Is (.slice A n c), Is (.int .i64 j), Is (.slice A j c), PsOne lr, Is (.int .u32 ((crc lr).toNat : Int)), Is (.slice B m d), Is (.int .i64 j), Is (.slice B j d), PsOne kr, Is (.int .u32 ((crc kr).toNat : Int)), Is (.int .u32 ((crc lr ^^^ crc kr).toNat : Int)),
              Is (.slice (some ⟨gz, 0, none⟩) j j), PsOne zs, Is (.int .u32 ((crc zs).toNat : Int)), Is (.int .u32 ((crc row).toNat : Int)), Is (.slice (some ⟨gx, 0, none⟩) j j), PsOne row, Is (.int .u32 ((crc row).toNat : Int)), Is (.bool true), Is (.bool true)]
            [[(0, none)], [(5, none)], [(37, some 0), (38, some 1)], [(39, some 2)], [(40, some 3)], [(1, none)], [(5, none)], [(42, some 5), (43, some 6)], [(44, some 7)], [(45, some 8)], [(41, some 4), (46, some 9)], [(7, none)], [(48, some 11)], [(49, some 12)], [(47, some 10), (50, some 13)], [(6, none)], [(52, some 15)], [(53, some 16)], [(51, some 14), (54, some 17)], [(55, some 18)]]
            (by kernel_rfl) (by kernel_rfl) (by kernel_rfl)
            ⟨mono_is _, mono_is _, mono_is _, mono_psOne _, mono_is _, mono_is _, mono_is _, mono_is _, mono_psOne _, mono_is _, mono_is _, mono_is _, mono_psOne _, mono_is _, mono_is _, mono_is _, mono_psOne _, mono_is _, mono_is _, mono_is _, trivial⟩ ?vc ?fin
          case vc =>
            refine ⟨?_, ?_, ?_, ?_, ?_, ?_, ?_, ?_, ?_, ?_, ?_, ?_, ?_, ?_, ?_, ?_, ?_, ?_, ?_, ?_, trivial⟩
            · exact vf_none rfl (f_mov (.inl rfl) fun A W _ h => h.1)
            · exact vf_none rfl (f_mov (.inl rfl) fun A W _ h => h.1)
            · refine vf_none rfl (f_run fun A' W hR h => ?_)
              obtain ⟨h1, h2, _⟩ := h
              replace h1 : A'.tmps[37]?.getD undef = _ := h1
              replace h2 : A'.tmps[38]?.getD undef = _ := h2
              refine ⟨_, W, ?_, Below.refl _ _, rfl⟩
              go_simp
            · refine vf_none rfl (f_run fun A' W hR h => ?_)
              obtain ⟨h1, _⟩ := h
              replace h1 : A'.tmps[39]?.getD undef = .slice A j c := h1
              refine ⟨.slice (some ⟨W.heap.size, 0, none⟩) 1 1, W.alloc (.cells #[.slice A j c] 25), ?_, (Below.refl _ _).alloc (Nat.le_refl _) _, W.heap.size, rfl, Ps.lit1 _ rfl (bA.keep (.of_below hR)) (by omega) (by omega)⟩
              go_simp
            · refine vf_none rfl (f_call rfl Try.func13 rfl (by kernel_rfl) fun A' W hR h => ?_)
              obtain ⟨⟨g, h1, hP⟩, _⟩ := h
              show Calls _ _ #[A'.tmps[40]?.getD undef] _ _
              rw [h1]
              refine Calls.mono (crcSum_any _ _ _ [lr] _ hP (by omega)) ?_
              rintro e W' ⟨rfl, rfl⟩
              exact ⟨_, rfl, Below.refl _ _, by simp [SL, Is]⟩
            · exact vf_none rfl (f_mov (.inl rfl) fun A W _ h => h.1)
            · exact vf_none rfl (f_mov (.inl rfl) fun A W _ h => h.1)
            · refine vf_none rfl (f_run fun A' W hR h => ?_)
              obtain ⟨h1, h2, _⟩ := h
              replace h1 : A'.tmps[42]?.getD undef = _ := h1
              replace h2 : A'.tmps[43]?.getD undef = _ := h2
              refine ⟨_, W, ?_, Below.refl _ _, rfl⟩
              go_simp
            · refine vf_none rfl (f_run fun A' W hR h => ?_)
              obtain ⟨h1, _⟩ := h
              replace h1 : A'.tmps[44]?.getD undef = .slice B j d := h1
              refine ⟨.slice (some ⟨W.heap.size, 0, none⟩) 1 1, W.alloc (.cells #[.slice B j d] 25), ?_, (Below.refl _ _).alloc (Nat.le_refl _) _, W.heap.size, rfl, Ps.lit1 _ rfl (bB.keep (.of_below hR)) (by omega) (by omega)⟩
              go_simp
            · refine vf_none rfl (f_call rfl Try.func13 rfl (by kernel_rfl) fun A' W hR h => ?_)
              obtain ⟨⟨g, h1, hP⟩, _⟩ := h
              show Calls _ _ #[A'.tmps[45]?.getD undef] _ _
              rw [h1]
              refine Calls.mono (crcSum_any _ _ _ [kr] _ hP (by omega)) ?_
              rintro e W' ⟨rfl, rfl⟩
              exact ⟨_, rfl, Below.refl _ _, by simp [SL, Is]⟩
            · refine vf_none rfl (f_run fun A' W hR h => ?_)
              obtain ⟨h1, h2, _⟩ := h
              replace h1 : A'.tmps[41]?.getD undef = _ := h1
              replace h2 : A'.tmps[46]?.getD undef = _ := h2
              refine ⟨_, W, ?_, Below.refl _ _, rfl⟩
              go_simp
              exact u32_xor_nat _ _ (crc lr).isLt (crc kr).isLt
            · exact vf_none rfl (f_mov (.inl rfl) fun A W _ h => h.1)
            · refine vf_none rfl (f_run fun A' W hR h => ?_)
              obtain ⟨h1, _⟩ := h
              replace h1 : A'.tmps[48]?.getD undef = .slice (some ⟨gz, 0, none⟩) j j := h1
              refine ⟨.slice (some ⟨W.heap.size, 0, none⟩) 1 1, W.alloc (.cells #[.slice (some ⟨gz, 0, none⟩) j j] 25), ?_, (Below.refl _ _).alloc (Nat.le_refl _) _, W.heap.size, rfl, Ps.lit1 _ rfl (bZ.keep (.of_below hR)) (by omega) (by omega)⟩
              go_simp
            · refine vf_none rfl (f_call rfl Try.func13 rfl (by kernel_rfl) fun A' W hR h => ?_)
              obtain ⟨⟨g, h1, hP⟩, _⟩ := h
              show Calls _ _ #[A'.tmps[49]?.getD undef] _ _
              rw [h1]
              refine Calls.mono (crcSum_any _ _ _ [zs] _ hP (by omega)) ?_
              rintro e W' ⟨rfl, rfl⟩
              exact ⟨_, rfl, Below.refl _ _, by simp [SL, Is]⟩
            · refine vf_none rfl (f_run fun A' W hR h => ?_)
              obtain ⟨h1, h2, _⟩ := h
              replace h1 : A'.tmps[47]?.getD undef = _ := h1
              replace h2 : A'.tmps[50]?.getD undef = _ := h2
              refine ⟨_, W, ?_, Below.refl _ _, rfl⟩
              go_simp
              have f := congrArg BitVec.toNat Fin.out
              rw [BitVec.toNat_xor] at f
              have lt1 := (crc lr ^^^ crc kr).isLt
              rw [u32_xor_nat _ _ (by rw [← BitVec.toNat_xor]; exact lt1) (crc zs).isLt, ← f, BitVec.toNat_xor]
            · exact vf_none rfl (f_mov (.inl rfl) fun A W _ h => h.1)
            · refine vf_none rfl (f_run fun A' W hR h => ?_)
              obtain ⟨h1, _⟩ := h
              replace h1 : A'.tmps[52]?.getD undef = .slice (some ⟨gx, 0, none⟩) j j := h1
              refine ⟨.slice (some ⟨W.heap.size, 0, none⟩) 1 1, W.alloc (.cells #[.slice (some ⟨gx, 0, none⟩) j j] 25), ?_, (Below.refl _ _).alloc (Nat.le_refl _) _, W.heap.size, rfl, Ps.lit1 _ rfl (bX.keep (.of_below hR)) (by omega) (by omega)⟩
              go_simp
            · refine vf_none rfl (f_call rfl Try.func13 rfl (by kernel_rfl) fun A' W hR h => ?_)
              obtain ⟨⟨g, h1, hP⟩, _⟩ := h
              show Calls _ _ #[A'.tmps[53]?.getD undef] _ _
              rw [h1]
              refine Calls.mono (crcSum_any _ _ _ [row] _ hP (by omega)) ?_
              rintro e W' ⟨rfl, rfl⟩
              exact ⟨_, rfl, Below.refl _ _, by simp [SL, Is]⟩
            · refine vf_none rfl (f_run fun A' W hR h => ?_)
              obtain ⟨h1, h2, _⟩ := h
              replace h1 : A'.tmps[51]?.getD undef = _ := h1
              replace h2 : A'.tmps[54]?.getD undef = _ := h2
              refine ⟨_, W, ?_, Below.refl _ _, rfl⟩
              go_simp
            · exact vf_none rfl (f_mov (.inr rfl) fun A W _ h => h.1)
          case fin =>
            intro A' W hd hs hR he hr
            obtain ⟨_, _, _, _, _, _, _, _, _, _, _, _, _, _, _, _, _, _, _, h4, _⟩ := he
            go_wp2
            exact ret_any rfl hd h4 ⟨rfl, below_then hbr hR hbr.size⟩

theorem crcLines_top (A : Option Addr) (n c : Nat) (l : List UInt8) (B : Option Addr) (m d : Nat) (k : List UInt8) (w : World) (hA : Bs w A n l) (hn : n ≤ c) (hc : c ≤ 140737488351232) (hB : Bs w B m k) (hm : m ≤ d) (hd : d ≤ 140737488351232) :
    Calls Try.prog 5 #[.slice A n c, .slice B m d] w fun e w' => e = .returned (.bool true) ∧ Below w.heap.size w w' :=
  crcLines_walk A B n c m d (min (min n m) 200) l k w hA hB hn (by omega) hm (by omega) (by omega) (by omega) (by omega) (by omega)
end Go.Proofs.Ytdbjclpjplkkfaa
