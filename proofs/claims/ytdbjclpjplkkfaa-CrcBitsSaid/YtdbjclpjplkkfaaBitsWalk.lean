/- CrcBits: the walk. -/
import Derived.Test.YtdbjclpjplkkfaaChecked
import Derived.Test.YtdbjclpjplkkfaaCrcSum
import Derived.Test.YtdbjclpjplkkfaaCrcKnown
import Derived.Test.YtdbjclpjplkkfaaConcat
import Derived.WalkLawsBesides
import Derived.Deep.DeepCutAuto
namespace Go.Proofs.Ytdbjclpjplkkfaa
open Go.RowKit

set_option maxRecDepth 100000 in
theorem crcBits_none (A : Option Addr) (n c : Nat) (l : List UInt8) (x y : Int) (w : World) (hA : Bs w A n l) (hn : n = 0 ∨ 300 < n) (hn2 : n ≤ 9223372036854775807) :
    Calls Try.prog 4 #[.slice A n c, .int .i64 x, .int .i64 y] w fun e w' => e = .returned (.bool true) ∧ Below w.heap.size w w' := by
  rcases hn with rfl | hn
  all_goals
    go_enter Try.func4, Try.ntmps4
    go_wp2_with (go_at_call 9; refine Calls.mono (known_any _) ?_; rintro e w1 ⟨rfl, hb1⟩)
    go_ret
    exact ⟨rfl, hb1⟩

set_option maxRecDepth 100000 in
set_option maxHeartbeats 1000000 in
theorem crcBits_walk (A : Option Addr) (n c : Nat) (l : List UInt8) (x y : Int) (w : World) (hA : Bs w A n l) (hc : n ≤ c) (hc2 : c ≤ 9223372036854775807) (h0 : 0 < n) (h3 : n ≤ 300) :
    Calls Try.prog 4 #[.slice A n c, .int .i64 x, .int .i64 y] w fun e w' => e = .returned (.bool true) ∧ Below w.heap.size w w' := by
  obtain ⟨i0, hi0, hz0, hz1, hz2⟩ := info_parts byteInfo
  have hne : ((n : Int) == 0) = false := by rw [beq_eq_false_iff_ne]; omega
  go_enter Try.func4, Try.ntmps4
  go_upto_region 7 with (first
    | (go_at_call 9; refine Calls.mono (known_any _) ?_; rintro e w1 ⟨rfl, hb1⟩; have hA1 := hA.keep (.of_below hb1))
    | (at_builtin; refine cloneB w1 rfl (.tmp 22) (.tmp 23) rfl _ rfl rfl A n c l rfl hA1 (by omega) ?_; intro v2 w2 hown2 hb2)
    | (go_at_call 12; with_reducible refine Calls.mono (within_any x n _ _ rfl h0 (by omega)) ?_; rintro e _ ⟨rfl, rfl⟩)
    | (go_at_call 12; refine Calls.mono (within_any y 8 _ _ rfl (by omega) (by omega)) ?_; rintro e _ ⟨rfl, rfl⟩))
  have hk := within_lt x n h0
  generalize within x n = k at hk
  have hs := within_lt y 8 (by omega)
  generalize within y 8 = s at hs
  have e9 : ((2 : Int) ^ min (IntKind.u64.wrap (s : Int)).toNat 8 % 256) = ((oneBit s).toNat : Int) := by
    rw [IntWalk.u64_in _ (by omega), oneBit_toNat s hs]
    have h1 : min (s : Int).toNat 8 = s := by omega
    have h2 : 2 ^ s < 256 := Nat.pow_lt_pow_right (by omega) hs
    rw [h1]
    have h3 : ((2 : Int) ^ s) = ((2 ^ s : Nat) : Int) := by simp
    rw [h3]
    generalize 2 ^ s = q at h2
    omega
  rw [e9]
  have hmne := oneBit_ne s hs
  generalize oneBit s = m at hmne
  clear e9 hs
  have hl := hA.len
  obtain ⟨z, hz⟩ : ∃ z, l[k]? = some z := ⟨_, List.getElem?_eq_getElem (by omega)⟩
  obtain ⟨g, d, rfl, hg1, hg2, hd1, hd2⟩ := own_form hown2 h0
  have hbw := below_two hb1 hb2
  have hgw : w.heap.size ≤ g := Nat.le_trans hb1.size hg1
  have hx2 := xor_back z m
  have hx3 := xor_other z m hmne
  have ex1 := u8_xor_u z m
  have ex2 := u8_xor_u (z ^^^ m) m
  rw [hx2] at ex2
  generalize z ^^^ m = z2 at hx2 hx3 ex1 ex2
  have hown3 := own_set hown2 k z2
  have hz3 : (l.set k z2)[k]? = some z2 := by simp [hl, hk]
  have hown4 := own_set hown3 k z
  have hback : (l.set k z2).set k z = l := by
    rw [List.set_set]
    apply List.ext_getElem?
    intro i
    rw [List.getElem?_set]
    split
    · rename_i hki; subst hki; rw [if_pos (by omega), hz]
    · rfl
  rw [hback] at hown4
  have hdiff := crc_set l k z z2 hz hx3
  have c2 := own_cell hown2 hz
  have c3 := own_cell hown3 hz3
  have f2 : w2.frozen? ⟨g, k, none⟩ = false := hown2.frozenAt k
  have f3 : (w2.setCell ⟨g, k, none⟩ (.int .u8 (z2.toNat : Int))).frozen? ⟨g, k, none⟩ = false := hown3.frozenAt k
  have b2 : Bs w2 (some ⟨g, 0, none⟩) n l := Vs.of_own hown2
  have b3 : Bs (w2.setCell ⟨g, k, none⟩ (.int .u8 (z2.toNat : Int))) (some ⟨g, 0, none⟩) n (l.set k z2) := Vs.of_own hown3
  have b4 : Bs ((w2.setCell ⟨g, k, none⟩ (.int .u8 (z2.toNat : Int))).setCell ⟨g, k, none⟩ (.int .u8 (z.toNat : Int))) (some ⟨g, 0, none⟩) n l := Vs.of_own hown4
  have hk1 : (k : Int) < n := by omega
  have hk0 : (0 : Int) ≤ k := by omega
  generalize hl1 : l.set k z2 = l1 at hdiff b3
  have hne2 : (((crc l1).toNat : Int) != ((crc l).toNat : Int)) = true := by
    rw [bne_iff_ne]
    intro e
    exact hdiff (BitVec.eq_of_toNat_eq (by omega))
  clear hl hz hown2 hown3 hown4 hback hdiff hz3 hl1 hx2 hx3
  go_wp2_with fail
  refine Calls.mono (crcSum1 _ _ _ l _ _ (by rfl) (by exact b2) (by omega) (by omega)) ?_
  rintro e _ ⟨rfl, rfl⟩
  go_wp2_with fail
  refine Calls.mono (crcSum1 _ _ _ l1 _ _ (by simp) (by exact Bs.alloc b3 _) (by omega) (by omega)) ?_
  rintro e _ ⟨rfl, rfl⟩
  go_wp2_with fail
  refine Calls.mono (crcSum1 _ _ _ l _ _ (by simp) (by exact Bs.alloc (Bs.alloc b4 _) _) (by omega) (by omega)) ?_
  rintro e _ ⟨rfl, rfl⟩
  go_wp2_with fail
  go_ret
  refine ⟨rfl, ?_⟩
  have h1 := (hbw.setCell (p := ⟨g, k, none⟩) hgw (.int .u8 (z2.toNat : Int))).setCell (p := ⟨g, k, none⟩) hgw (.int .u8 (z.toNat : Int))
  have hsz := hbw.size
  exact ((h1.alloc (by simpa using hsz) _).alloc (by simp; omega) _).alloc (by simp; omega) _

theorem crcBits_top (A : Option Addr) (n c : Nat) (l : List UInt8) (x y : Int) (w : World) (hA : Bs w A n l) (hc : n ≤ c) (hc2 : c ≤ 140737488351232) (_ : -9223372036854775808 ≤ x ∧ x ≤ 9223372036854775807) (_ : -9223372036854775808 ≤ y ∧ y ≤ 9223372036854775807) :
    Calls Try.prog 4 #[.slice A n c, .int .i64 x, .int .i64 y] w fun e w' => e = .returned (.bool true) ∧ Below w.heap.size w w' := by
  by_cases h : n = 0 ∨ 300 < n
  · exact crcBits_none A n c l x y w hA h (by omega)
  · exact crcBits_walk A n c l x y w hA hc (by omega) (by omega) (by omega)
end Go.Proofs.Ytdbjclpjplkkfaa
