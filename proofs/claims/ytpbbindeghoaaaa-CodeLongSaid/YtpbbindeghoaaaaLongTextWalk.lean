/- CodeLong: the walk. -/
import Derived.Test.YtpbbindeghoaaaaChecked
import Derived.Test.YtpbbindeghoaaaaCodeKnown
import Derived.Test.YtpbbindeghoaaaaCodeBackPlain
import Derived.Deep.DeepCutAuto
namespace Go.Proofs.Ytpbbindeghoaaaa
open Go.RowKit

/-- make([]byte, n) -/
theorem makeBytes (n : Nat) (hn : n ≤ 140737488355328) (W : World) :
    (Instr.makeSlice 22 (.int .i64 (n : Int)) (.int .i64 (n : Int))).run Try.prog W = .ok (.slice (some ⟨W.heap.size, 0, none⟩) n n) (W.alloc (.cells (bv (List.replicate n 0)).toArray 5)) := by
  obtain ⟨i0, hi0, hz0, hz1, hz2⟩ := info_parts byteInfo
  have hr := run_make (P := Try.prog) W 22 5 i0 (.int .u8 0) Try.underlying22 hi0 hz0 .i64 .i64 n n (by omega) (by omega) (by rw [hz2]; omega) (by omega)
  simp only [Int.toNat_natCast, hz1, Nat.mul_one, Value.cells] at hr
  rw [hr]
  congr 3
  apply Array.toList_inj.1
  rw [toList_madeCells_one]
  simp [bv]

set_option maxRecDepth 100000 in
set_option maxHeartbeats 1000000 in
theorem codeLong_walk (x : Int) (y : Int) (u : UInt8) (w : World) (hy : y = (u.toNat : Int)) :
    Calls Try.prog 5 #[.int .i64 x, .int .u8 y] w fun e w' => e = .returned (.bool true) ∧ Below w.heap.size w w' := by
  subst hy
  have hx := within_lt x 5 (by omega)
  go_enter Try.func5, Try.ntmps5
  go_upto_region 4 with (first
    | (go_at_call 10; refine Calls.mono (known_any _) ?_; rintro e w1 ⟨rfl, hb1⟩)
    | (go_at_call 17; with_reducible refine Calls.mono (within_any x 5 _ _ rfl (by omega) (by omega)) ?_; rintro e _ ⟨rfl, rfl⟩))
  generalize within x 5 = a at hx ⊢
  have hs : (65533 : Int) + a = ((65533 + a : Nat) : Int) := by omega
  rw [hs]
  have hN : 65533 ≤ 65533 + a ∧ 65533 + a ≤ 65537 := by omega
  clear hs
  generalize 65533 + a = N at hN ⊢
  have hmk := makeBytes N (by omega) w1
  have hrl : (List.replicate N (0 : UInt8)).length = N := by simp
  generalize List.replicate N (0 : UInt8) = Z at hmk hrl
  have hbl : (bv Z).length = N := by rw [length_bv]; exact hrl
  have hO : (w1.alloc (.cells (bv Z).toArray 5)).ownsRow w1.heap.size 5 1 (.slice (some ⟨w1.heap.size, 0, none⟩) N N) N (bv Z) :=
    ⟨by rw [hbl, Nat.mul_one], .inr ⟨_, N, _, rfl, Nat.le_refl _, heap_alloc_new w1 _, Nat.le_refl _, by simp only [maxLen]; omega, by rw [Nat.mul_one]; simpa using hbl, by rw [Nat.mul_one]; exact List.take_of_length_le (by simp [hbl])⟩⟩
  obtain ⟨z, hz⟩ : ∃ z, Z[0]? = some z := ⟨_, List.getElem?_eq_getElem (by omega)⟩
  have c0 := own_cell hO hz
  have f0 := hO.frozenAt 0
  have hN0 : (0 : Int) < N := by omega
  have HRL := Lib.hid hrl
  have HBL := Lib.hid hbl
  clear hrl hbl hz hO
  go_upto_region 6 with fail
  rw [bv_set']
  have hT0 : (Z.set 0 u)[0]? = some u := by
    have := HRL.out
    rw [List.getElem?_set_self (by omega)]
  have htl : (Z.set 0 u).length = N := by rw [List.length_set]; exact HRL.out
  have HTL := Lib.hid htl
  clear htl
  generalize Z.set 0 u = T at hT0 HTL ⊢
  have hSb : Bs (w1.alloc (.cells (bv T).toArray 5)) (some ⟨w1.heap.size, 0, none⟩) N T := Bs.lit _ rfl T HTL.out.symm rfl
  have hbw : Below w.heap.size w (w1.alloc (.cells (bv T).toArray 5)) := hb1.alloc hb1.size _
  have k1 := convB (c := N) hSb
  have HT0 := Lib.hid hT0
  clear hT0 hmk c0 f0
  go_upto_region 7 with (go_at_call 15; refine Calls.mono (codeText_any none 0 0 [] T _ (Bs.nil _ _) (by omega) (by omega) (by omega) (by have := HTL.out; omega)) ?_; rintro e w2 ⟨v2, rfl, hown2, hb2⟩)
  have hk : (txt T).length = min 65535 N := by rw [length_txt, HTL.out]
  have ht := text_back T []
  rw [List.append_nil] at ht
  have x0 : (textBytes T)[0]? = some (UInt8.ofNat (txt T).length) := rfl
  have x1 : (textBytes T)[1]? = some (UInt8.ofNat ((txt T).length / 256)) := rfl
  have e0 := (low8 (txt T).length).symm
  have e1 := (shr8 (txt T).length (by omega)).symm
  have s0 : (txt T)[0]? = some u := by
    unfold txt
    rw [List.getElem?_take, if_pos (by omega)]
    exact HT0.out
  have hown : w2.ownsRow (w1.alloc (.cells (bv T).toArray 5)).heap.size 5 1 v2 ((txt T).length + 2) (bv (textBytes T)) := by
    rw [← length_textBytes]
    simpa using hown2
  have hbw2 := below_two hbw hb2
  clear hown2 hb2 k1 hSb hbw
  obtain ⟨g, d, rfl, hg1, hg2, hd1, hd2⟩ := own_form hown (by omega)
  have bX : Bs w2 (some ⟨g, 0, none⟩) ((txt T).length + 2) (textBytes T) := Vs.of_own hown
  generalize UInt8.ofNat (txt T).length = b0 at x0 e0
  generalize UInt8.ofNat ((txt T).length / 256) = b1 at x1 e1
  have c0 := own_cell hown x0
  have c1 := own_cell hown x1
  have hS := Lib.hid s0
  generalize textBytes T = X at bX ht hown x0 x1 c0 c1
  generalize txt T = S at hk ht e0 e1 bX hown hd1 hS s0 ⊢
  clear hown x0 x1 s0
  obtain ⟨S', rfl⟩ : ∃ S', S = u :: S' := by
    have := hS.out
    cases S with
    | nil => simp at this
    | cons v S' => simp at this; subst this; exact ⟨S', rfl⟩
  have HTB := Lib.hid ht
  clear ht
  generalize hK : (u :: S').length = K at hk e0 e1 bX hd1 ⊢
  have HK := Lib.hid hK
  clear hK
  by_cases hle : N ≤ 65535
  · obtain rfl : K = N := by omega
    have hle' : (K : Int) ≤ 65535 := by omega
    have hm : min (K : Int) 65535 = K := by omega
    clear hk
    go_upto_region 9 with (go_at_call 18; refine Calls.mono (new_any _ _ _ _ _ bX (by omega)) ?_; rintro e w3 ⟨g3, rfl, hg3, hg4, cr3, hb3⟩)
    go_upto_region 10 with (go_at_call 22; refine Calls.mono (readText_any g3 _ 0 _ cr3) ?_; rw [HTB.out]; rintro e w4 ⟨rfl, cr4, gr4⟩)
    have cr4 : CR w4 g3 [] 0 := cr4
    have hb4 := below_grown hb3 gr4 hb3.size hg3
    have hbw4 := below_two hbw2 hb4
    have c0 := Keeps.of_below hb4 _ _ c0
    have c1 := Keeps.of_below hb4 _ _ c1
    have hsz := size_str (u :: S')
    rw [HK.out] at hsz
    go_wp2_with (go_at_call 21; refine Calls.mono (end_any g3 [] 0 _ cr4) ?_; rw [show ended [] 0 = 0 by simp [ended]]; rintro e _ ⟨rfl, rfl⟩)
    go_ret
    exact ⟨rfl, hbw4⟩
  · obtain rfl : K = 65535 := by omega
    have hle' : ¬ (N : Int) ≤ 65535 := by omega
    have hle2 : (65535 : Int) < N := by omega
    have hm : min (N : Int) 65535 = 65535 := by omega
    have e2 : ((b0.toNat : Nat) : Int) = 255 := by omega
    have e3 : ((b1.toNat : Nat) : Int) = 255 := by omega
    clear hk e0 e1
    go_upto_region 9 with (go_at_call 18; refine Calls.mono (new_any _ _ _ _ _ bX (by omega)) ?_; rintro e w3 ⟨g3, rfl, hg3, hg4, cr3, hb3⟩)
    go_upto_region 10 with (go_at_call 22; refine Calls.mono (readText_any g3 _ 0 _ cr3) ?_; rw [HTB.out]; rintro e w4 ⟨rfl, cr4, gr4⟩)
    have cr4 : CR w4 g3 [] 0 := cr4
    have hb4 := below_grown hb3 gr4 hb3.size hg3
    have hbw4 := below_two hbw2 hb4
    have c0 := Keeps.of_below hb4 _ _ c0
    have c1 := Keeps.of_below hb4 _ _ c1
    have hsz := size_str (u :: S')
    rw [HK.out] at hsz
    go_wp2_with (go_at_call 21; refine Calls.mono (end_any g3 [] 0 _ cr4) ?_; rw [show ended [] 0 = 0 by simp [ended]]; rintro e _ ⟨rfl, rfl⟩)
    go_ret
    exact ⟨rfl, hbw4⟩

theorem codeLong_top (x : Int) (y : Int) (u : UInt8) (w : World) (_ : -9223372036854775808 ≤ x ∧ x ≤ 9223372036854775807) (hy : y = (u.toNat : Int)) :
    Calls Try.prog 5 #[.int .i64 x, .int .u8 y] w fun e w' => e = .returned (.bool true) ∧ Below w.heap.size w w' := codeLong_walk x y u w hy
end Go.Proofs.Ytpbbindeghoaaaa
