/- What an elder program kept is given to a newer one. -/
import Derived.Test.YtcpifcdndhhmgaaTakApp
import Derived.Test.YtcpifcdndhhmgaaTakTake
import Derived.Test.YtcpifcdndhhmgaaKnJ2
import Derived.Test.YtcpifcdndhhmgaaTakGive
set_option linter.unusedVariables false
set_option linter.unusedSimpArgs false
namespace Go.Proofs.Ytcpifcdndhhmgaa
open Go.RowKit
attribute [local go_sem] ev_tmp ev_const ev_func ev_global lk_hit lk_miss uponK_value uponK_skip look_tmp look_const look_global look_func valP_value
set_option maxRecDepth 100000 in
set_option maxHeartbeats 4000000 in
theorem retainOld_top (n i : Int) (keep : Bool) (w : World) (_ : -9223372036854775808 ≤ n ∧ n ≤ 9223372036854775807) (_ : -9223372036854775808 ≤ i ∧ i ≤ 9223372036854775807) :
    Calls Try.prog 7 #[.int .i64 n, .int .i64 i, .bool keep] w fun e w' => e = .returned (.bool true) ∧ Below w.heap.size w w' := by
  refine calls_kw Try.func7 rfl Try.ntmps7 rfl [(0, .int .i64 n), (1, .int .i64 i), (2, .bool keep)] rfl ?_
  repeat (first | refine kw_seq ?_ | refine kw_region ?_ | refine kl_nil ?_ | refine kq_then ?_ | (first | refine kl_move rfl rfl (.inl rfl) rfl rfl ?_ | refine kl_move rfl rfl (.inr rfl) rfl rfl ?_ | refine kl_const rfl rfl (.inl rfl) rfl ?_ | refine kl_const rfl rfl (.inr rfl) rfl ?_))
  refine kl_call rfl rfl rfl Try.func8 rfl (by kernel_rfl) rfl ?_
  refine Calls.mono (known16_any w) ?_
  rintro e w0 ⟨rfl, hb0⟩
  refine ⟨_, rfl, ?_⟩
  have HB0 := Lib.hid hb0
  clear hb0
  repeat (first | refine kw_seq ?_ | refine kw_region ?_ | refine kl_nil ?_ | refine kq_then ?_ | refine kw_ift rfl ?_ | refine kw_iff rfl ?_ | refine kw_skip ?_ | refine kl_ung rfl rfl ?_ | refine kl_skipg rfl rfl rfl rfl ?_ | (first | refine kl_move rfl rfl (.inl rfl) rfl rfl ?_ | refine kl_move rfl rfl (.inr rfl) rfl rfl ?_ | refine kl_const rfl rfl (.inl rfl) rfl ?_ | refine kl_const rfl rfl (.inr rfl) rfl ?_) | ((first | refine kl_step rfl rfl rfl fun K hK => ?_ | refine kl_step0 rfl rfl rfl fun K hK => ?_); go_simp; (try go_bits); (first | refine hK _ _ ?_ | refine hK _ ?_); clear hK K))
  refine kl_call rfl rfl rfl Try.func35 rfl (by kernel_rfl) rfl ?_
  refine Calls.mono (syms12_any false w0) ?_
  rintro e w1 ⟨gX, f0, f1, f2, f3, f4, f5, f6, rfl, hL1⟩
  refine ⟨_, rfl, ?_⟩
  have hL1 : Lay w0 w1 (symV 3 true 4 (-3) gX f0 f1 f2 f3 f4 f5 f6) := hL1
  refine kl_call rfl rfl rfl Try.func27 rfl (by kernel_rfl) rfl ?_
  refine Calls.mono (cells8_any (some ⟨gX, 0, none⟩) 7 7 (symL 3 true 4 (-3) f0 f1 f2 f3 f4 f5 f6) w1 (symV_syms hL1 (by omega)) (by omega) (symL_ok (by omega) (by omega))) ?_
  rintro e w2 ⟨A2, n2, c2, rfl, hp2, hn2, hc2, hb2, _⟩
  refine ⟨_, rfl, ?_⟩
  rw [symL_vs, old_cells] at hp2
  obtain rfl : n2 = 19 := hp2.len.symm
  have HB2 := Lib.hid (below_then (below_then HB0.out hL1.below HB0.out.size) hb2 (Nat.le_trans HB0.out.size hL1.below.size))
  clear hn2 hc2 hb2 hL1 HB0
  repeat (first | refine kw_seq ?_ | refine kw_region ?_ | refine kl_nil ?_ | refine kq_then ?_ | (first | refine kl_move rfl rfl (.inl rfl) rfl rfl ?_ | refine kl_move rfl rfl (.inr rfl) rfl rfl ?_ | refine kl_const rfl rfl (.inl rfl) rfl ?_ | refine kl_const rfl rfl (.inr rfl) rfl ?_))
  refine kl_call rfl rfl rfl Try.func29 rfl (by kernel_rfl) rfl ?_
  refine Calls.mono (begin8_any A2 19 c2 oldC w2 hp2 (by omega)) ?_
  rintro e w3 ⟨v3, rfl, ho3, hb3⟩
  refine ⟨_, rfl, ?_⟩
  obtain ⟨gV, cV, rfl, hV5, hV6, hV7, hV8⟩ := own_formC ho3 (by omega)
  have HV := Lib.hid (And.intro hV7 hV8)
  have HP3 := Lib.hid (hp2.keep (.of_below hb3))
  have HPA : Hid (∀ a, A2 = some a → a.block ≠ gV) := fun a e => by have h1 : a.block < w2.heap.size := hp2.inQ (by omega) a e; omega
  have HB3 := Lib.hid (below_then HB2.out hb3 HB2.out.size)
  have HGV : Hid (w2.heap.size ≤ gV) := hV5
  obtain ⟨z0, hz0⟩ : ∃ z0, IntKind.i32.wrap n = z0 := ⟨_, rfl⟩
  obtain ⟨z3, hz3⟩ : ∃ z3, IntKind.i16.wrap i = z3 := ⟨_, rfl⟩
  have HZ0 : Hid (I64 z0) := by have := i32_bds n; rw [hz0] at this; show _ ∧ _; omega
  have HZ3 : Hid (I64 z3) := by have := i16_bds i; rw [hz3] at this; show _ ∧ _; omega
  have b0 : -9223372036854775808 ≤ z0 := HZ0.out.1
  have b1 : z0 ≤ 9223372036854775807 := HZ0.out.2
  have b2 : -9223372036854775808 ≤ z3 := HZ3.out.1
  have b3 : z3 ≤ 9223372036854775807 := HZ3.out.2
  have c0 : ∃ y, w3.cell? ⟨gV, 0, none⟩ = some y := ⟨_, own_at1 ho3 rfl⟩
  obtain ⟨y0, c0⟩ := c0
  have e0 : w3.frozen? ⟨gV, 0, none⟩ = false := own_free1 ho3
  have hs0 := ho3.stored 0 (.int .i64 z0)
  have HO4 := Lib.hid hs0.1
  have HG4 := Lib.hid hs0.2
  have HB2s := HB2.out.size
  clear hp2 hb3 hV5 hV6 hV7 hV8 hs0 ho3 HB2
  repeat (first | refine kw_seq ?_ | refine kw_region ?_ | refine kl_nil ?_ | refine kq_then ?_ | (first | refine kl_move rfl rfl (.inl rfl) rfl rfl ?_ | refine kl_move rfl rfl (.inr rfl) rfl rfl ?_ | refine kl_const rfl rfl (.inl rfl) rfl ?_ | refine kl_const rfl rfl (.inr rfl) rfl ?_) | (refine kl_step rfl rfl rfl fun K hK => ?_; go_simp; (try go_bits); refine hK _ _ ?_; clear hK K))
  (first | ((first | refine kl_step rfl rfl rfl fun K hK => ?_ | refine kl_step0 rfl rfl rfl fun K hK => ?_); go_simp; (try go_bits); (first | refine hK _ _ ?_ | refine hK _ ?_); clear hK K))
  clear c0 e0 b0 b1 hz0
  generalize w3.setCell ⟨gV, 0, none⟩ (.int .i64 z0) = w4 at HO4 HG4 ⊢
  have c3 : ∃ y, w4.cell? ⟨gV, 3, none⟩ = some y := ⟨_, own_at1 HO4.out rfl⟩
  obtain ⟨y3, c3⟩ := c3
  have e3 : w4.frozen? ⟨gV, 3, none⟩ = false := own_free1 HO4.out
  have hs3 := HO4.out.stored 3 (.int .i64 z3)
  have HO5 : Hid ((w4.setCell ⟨gV, 3, none⟩ (.int .i64 z3)).ownsRow w2.heap.size 3 1 (.slice (some ⟨gV, 0, none⟩) 19 cV) 19 ((oldZ z0 z3).map (Value.int .i64))) := hs3.1
  have HG5 := Lib.hid (grown_trans HG4.out hs3.2)
  clear hs3 HO4 HG4
  repeat (first | refine kw_seq ?_ | refine kw_region ?_ | refine kl_nil ?_ | refine kq_then ?_ | (first | refine kl_move rfl rfl (.inl rfl) rfl rfl ?_ | refine kl_move rfl rfl (.inr rfl) rfl rfl ?_ | refine kl_const rfl rfl (.inl rfl) rfl ?_ | refine kl_const rfl rfl (.inr rfl) rfl ?_) | (refine kl_step rfl rfl rfl fun K hK => ?_; go_simp; (try go_bits); refine hK _ _ ?_; clear hK K))
  (first | ((first | refine kl_step rfl rfl rfl fun K hK => ?_ | refine kl_step0 rfl rfl rfl fun K hK => ?_); go_simp; (try go_bits); (first | refine hK _ _ ?_ | refine hK _ ?_); clear hK K))
  clear c3 e3 b2 b3 hz3
  generalize w4.setCell ⟨gV, 3, none⟩ (.int .i64 z3) = w5 at HO5 HG5 ⊢
  have HP5 : Hid (Rw cellE w5 A2 19 oldC) := rw_grownR HP3.out HG5.out (fun _ a e e2 => by injection e2 with e2; exact HPA.out a e e2.symm)
  have HB5 := Lib.hid (below_grown HB3.out HG5.out HB3.out.size (by have := HGV.out; have := HB2s; omega))
  have HV5 := Lib.hid (Vs.of_own HO5.out)
  clear HO5 HG5 HP3 HPA HGV HB2s HB3
  repeat (first | refine kw_seq ?_ | refine kw_region ?_ | refine kl_nil ?_ | refine kq_then ?_ | (first | refine kl_move rfl rfl (.inl rfl) rfl rfl ?_ | refine kl_move rfl rfl (.inr rfl) rfl rfl ?_ | refine kl_const rfl rfl (.inl rfl) rfl ?_ | refine kl_const rfl rfl (.inr rfl) rfl ?_))
  refine kl_call rfl rfl rfl Try.func31 rfl (by kernel_rfl) rfl ?_
  refine Calls.mono (take_any A2 19 c2 oldC (some ⟨gV, 0, none⟩) 19 cV (oldZ z0 z3) w5 HP5.out (by omega) HV5.out (by omega)) ?_
  rintro e w6 ⟨A3, n3, c3, rfl, hk3, hn3, hc3, hb6, _, _⟩
  refine ⟨_, rfl, ?_⟩
  rw [old_take] at hk3
  obtain rfl : n3 = 2 := hk3.len.symm
  have HK6 := Lib.hid hk3
  have HC6 := Lib.hid (And.intro hn3 hc3)
  have HV6 := Lib.hid (HV5.out.keep (.of_below hb6))
  have HB6 := Lib.hid (below_then HB5.out hb6 HB5.out.size)
  clear hk3 hn3 hc3 hb6 HV5 HB5 HP5
  repeat (first | refine kw_seq ?_ | refine kw_region ?_ | refine kl_nil ?_ | refine kq_then ?_ | (first | refine kl_move rfl rfl (.inl rfl) rfl rfl ?_ | refine kl_move rfl rfl (.inr rfl) rfl rfl ?_ | refine kl_const rfl rfl (.inl rfl) rfl ?_ | refine kl_const rfl rfl (.inr rfl) rfl ?_))
  refine kl_call rfl rfl rfl Try.func35 rfl (by kernel_rfl) rfl ?_
  refine Calls.mono (syms12_any true w6) ?_
  rintro e w7 ⟨gY, g0, g1, g2, g3, g4, g5, g6, rfl, hL7⟩
  refine ⟨_, rfl, ?_⟩
  have hL7 : Lay w6 w7 (symV 5 true 4 (-3) gY g0 g1 g2 g3 g4 g5 g6) := hL7
  have a5 : w7.cell? ⟨gY, 5, none⟩ = some (.bool true) := hL7.get (j := 5) 0 rfl rfl
  have e5 : w7.frozen? ⟨gY, 5, none⟩ = false := hL7.free 0 rfl 5
  have HL8 : Hid (Lay w6 (w7.setCell ⟨gY, 5, none⟩ (.bool keep)) (symV 5 keep 4 (-3) gY g0 g1 g2 g3 g4 g5 g6)) := hL7.cell 0 rfl 5 (.bool keep)
  clear hL7
  repeat (first | refine kw_seq ?_ | refine kw_region ?_ | refine kl_nil ?_ | refine kq_then ?_ | (first | refine kl_move rfl rfl (.inl rfl) rfl rfl ?_ | refine kl_move rfl rfl (.inr rfl) rfl rfl ?_ | refine kl_const rfl rfl (.inl rfl) rfl ?_ | refine kl_const rfl rfl (.inr rfl) rfl ?_) | (refine kl_step rfl rfl rfl fun K hK => ?_; go_simp; (try go_bits); refine hK _ _ ?_; clear hK K))
  (first | ((first | refine kl_step rfl rfl rfl fun K hK => ?_ | refine kl_step0 rfl rfl rfl fun K hK => ?_); go_simp; (try go_bits); (first | refine hK _ _ ?_ | refine hK _ ?_); clear hK K))
  clear a5 e5
  generalize w7.setCell ⟨gY, 5, none⟩ (.bool keep) = w8 at HL8 ⊢
  have a6 : w8.cell? ⟨gY, 27, none⟩ = some (.slice (some ⟨g3, 0, none⟩) 1 1) := HL8.out.get (j := 27) 0 rfl rfl
  have a7 : w8.cell? ⟨gY, 22, none⟩ = some (.int .i64 4) := HL8.out.get (j := 22) 0 rfl rfl
  have e7 : w8.frozen? ⟨gY, 22, none⟩ = false := HL8.out.free 0 rfl 22
  have HL9 : Hid (Lay w6 (w8.setCell ⟨gY, 22, none⟩ (.int .i64 5)) (symV 5 keep 5 (-3) gY g0 g1 g2 g3 g4 g5 g6)) := HL8.out.cell 0 rfl 22 (.int .i64 5)
  clear HL8
  repeat (first | refine kw_seq ?_ | refine kw_region ?_ | refine kl_nil ?_ | refine kq_then ?_ | (first | refine kl_move rfl rfl (.inl rfl) rfl rfl ?_ | refine kl_move rfl rfl (.inr rfl) rfl rfl ?_ | refine kl_const rfl rfl (.inl rfl) rfl ?_ | refine kl_const rfl rfl (.inr rfl) rfl ?_) | (refine kl_step rfl rfl rfl fun K hK => ?_; go_simp; (try go_bits); refine hK _ _ ?_; clear hK K))
  (first | ((first | refine kl_step rfl rfl rfl fun K hK => ?_ | refine kl_step0 rfl rfl rfl fun K hK => ?_); go_simp; (try go_bits); (first | refine hK _ _ ?_ | refine hK _ ?_); clear hK K))
  clear a6 a7 e7
  generalize w8.setCell ⟨gY, 22, none⟩ (.int .i64 5) = w9 at HL9 ⊢
  have a8 : w9.cell? ⟨g3, 0, none⟩ = some (.int .i64 (-3)) := HL9.out.get (cs := [.int .i64 (-3)]) (j := 0) 4 rfl rfl
  have e8 : w9.frozen? ⟨g3, 0, none⟩ = false := HL9.out.free 4 rfl 0
  have HL10 : Hid (Lay w6 (w9.setCell ⟨g3, 0, none⟩ (.int .i64 77)) (symV 5 keep 5 77 gY g0 g1 g2 g3 g4 g5 g6)) := HL9.out.cell (cs := [.int .i64 (-3)]) 4 rfl 0 (.int .i64 77)
  clear HL9
  repeat (first | refine kw_seq ?_ | refine kw_region ?_ | refine kl_nil ?_ | refine kq_then ?_ | (first | refine kl_move rfl rfl (.inl rfl) rfl rfl ?_ | refine kl_move rfl rfl (.inr rfl) rfl rfl ?_ | refine kl_const rfl rfl (.inl rfl) rfl ?_ | refine kl_const rfl rfl (.inr rfl) rfl ?_) | (refine kl_step rfl rfl rfl fun K hK => ?_; go_simp; (try go_bits); refine hK _ _ ?_; clear hK K))
  (first | ((first | refine kl_step rfl rfl rfl fun K hK => ?_ | refine kl_step0 rfl rfl rfl fun K hK => ?_); go_simp; (try go_bits); (first | refine hK _ _ ?_ | refine hK _ ?_); clear hK K))
  clear a8 e8
  generalize w9.setCell ⟨g3, 0, none⟩ (.int .i64 77) = w10 at HL10 ⊢
  have HV10 := Lib.hid (HV6.out.keep (.of_below HL10.out.below))
  have HK10 := Lib.hid (HK6.out.keep (.of_below HL10.out.below))
  have HB10 := Lib.hid (below_then HB6.out HL10.out.below HB6.out.size)
  clear HV6 HK6 HB6
  repeat (first | refine kw_seq ?_ | refine kw_region ?_ | refine kl_nil ?_ | refine kq_then ?_ | (first | refine kl_move rfl rfl (.inl rfl) rfl rfl ?_ | refine kl_move rfl rfl (.inr rfl) rfl rfl ?_ | refine kl_const rfl rfl (.inl rfl) rfl ?_ | refine kl_const rfl rfl (.inr rfl) rfl ?_))
  refine kl_call rfl rfl rfl Try.func27 rfl (by kernel_rfl) rfl ?_
  refine Calls.mono (cells8_any (some ⟨gY, 0, none⟩) 7 7 (symL 5 keep 5 77 g0 g1 g2 g3 g4 g5 g6) w10 (symV_syms HL10.out (by omega)) (by omega) (symL_ok (by omega) (by omega))) ?_
  rintro e w11 ⟨A4, n4, c4, rfl, hq4, hn4, hc4, hb11, _⟩
  refine ⟨_, rfl, ?_⟩
  rw [symL_vs, new_cells] at hq4
  obtain rfl : n4 = 21 := by rw [← hq4.len]; rfl
  have HL11 := Lib.hid (HL10.out.next hb11)
  have HV11 := Lib.hid (HV10.out.keep (.of_below hb11))
  have HK11 := Lib.hid (HK10.out.keep (.of_below hb11))
  have HB11 := Lib.hid (below_then HB10.out hb11 HB10.out.size)
  clear hn4 hc4 hb11 HL10 HV10 HK10 HB10
  repeat (first | (first | refine kl_move rfl rfl (.inl rfl) rfl rfl ?_ | refine kl_move rfl rfl (.inr rfl) rfl rfl ?_ | refine kl_const rfl rfl (.inl rfl) rfl ?_ | refine kl_const rfl rfl (.inr rfl) rfl ?_))
  refine kl_call rfl rfl rfl Try.func33 rfl (by kernel_rfl) rfl ?_
  refine Calls.mono (give_any A4 21 c4 (newC keep) A3 2 c3 (oldK z0 z3) w11 hq4 (by omega) HK11.out (by omega) HC6.out.1 HC6.out.2 (oldK_ok z0 z3 HZ0.out HZ3.out) (new_ok keep)) ?_
  rintro e w12 ⟨x1, rfl, hx1, hb12⟩
  refine ⟨_, rfl, ?_⟩
  obtain ⟨gW, cW, rfl, _⟩ := own_formC hx1 (by omega)
  have hl1 : (giveP (newC keep) (oldK z0 z3)).length = 21 := by have := hx1.1; simpa using this
  obtain ⟨wz, hwz⟩ : ∃ wz, (if keep = true then z0 else 0) = wz := ⟨_, rfl⟩
  have a0 : w12.cell? ⟨gW, 0, none⟩ = some (.int .i64 wz) := by rw [← hwz]; exact own_at1 hx1 (new_give0 keep z0 z3)
  have a1 : w12.cell? ⟨gW, 3, none⟩ = some (.int .i64 77) := own_at1 hx1 (new_give3 keep z0 z3)
  have HL12 := Lib.hid (HL11.out.next hb12)
  have v0 : w12.cell? ⟨gV, 0, none⟩ = some (.int .i64 z0) := by
    obtain ⟨b, o, e, hc⟩ := (HV11.out.keep (.of_below hb12)).at_ (k := 0) (by omega)
    injection e with e
    injection e with e1 e2
    subst e1; subst e2
    exact hc
  have HB12 := Lib.hid (below_then HB11.out hb12 HB11.out.size)
  clear hx1 hb12 hl1 HL11 HV11 HK11 HB11 hq4
  have q1 : (wz == wz) = true := beq_self_eq_true wz
  cases keep
  case false =>
    obtain rfl : wz = 0 := by simpa using hwz.symm
    clear hwz
    repeat (first | refine kw_seq ?_ | refine kw_region ?_ | refine kl_nil ?_ | refine kq_then ?_ | refine kw_ift rfl ?_ | refine kw_iff rfl ?_ | refine kw_skip ?_ | refine kl_ung rfl rfl ?_ | refine kl_skipg rfl rfl rfl rfl ?_ | (first | refine kl_move rfl rfl (.inl rfl) rfl rfl ?_ | refine kl_move rfl rfl (.inr rfl) rfl rfl ?_ | refine kl_const rfl rfl (.inl rfl) rfl ?_ | refine kl_const rfl rfl (.inr rfl) rfl ?_) | (refine kl_step rfl rfl rfl fun K hK => ?_; go_simp; (try go_bits); refine hK _ _ ?_; clear hK K))
    refine kl_call rfl rfl rfl Try.func27 rfl (by kernel_rfl) rfl ?_
    refine Calls.mono (cells8_any (some ⟨gY, 0, none⟩) 7 7 (symL 5 false 5 77 g0 g1 g2 g3 g4 g5 g6) w12 (symV_syms HL12.out (by omega)) (by omega) (symL_ok (by omega) (by omega))) ?_
    rintro e w13 ⟨A5, n5, c5, rfl, hq5, hn5, hc5, hb13, _⟩
    refine ⟨_, rfl, ?_⟩
    rw [symL_vs, new_cells] at hq5
    obtain rfl : n5 = 21 := by rw [← hq5.len]; rfl
    have HB13 := Lib.hid (below_then HB12.out hb13 HB12.out.size)
    clear hq5 hb13 HL12 HB12 a0 a1 v0
    repeat (first | refine kw_seq ?_ | refine kw_block ?_ | refine kw_skip ?_ | refine kw_region ?_ | refine kl_nil ?_ | refine kq_then ?_ | refine kq_block ?_ | refine kw_exit ?_ | refine kq_then_exit ?_ | refine kq_block_here rfl ?_ | refine kq_block_far rfl ?_ | refine kq_again_exit ?_ | refine kw_ret ?_ | refine kq_then_ret ?_ | refine kq_block_ret ?_ | refine kq_again_ret ?_ | refine kw_ift rfl ?_ | refine kw_iff rfl ?_ | refine kl_ung rfl rfl ?_ | refine kl_skipg rfl rfl rfl rfl ?_ | refine kl_skipg0 rfl rfl rfl ?_ | (first | refine kl_move rfl rfl (.inl rfl) rfl rfl ?_ | refine kl_move rfl rfl (.inr rfl) rfl rfl ?_ | refine kl_const rfl rfl (.inl rfl) rfl ?_ | refine kl_const rfl rfl (.inr rfl) rfl ?_) | ((first | refine kl_step rfl rfl rfl fun K hK => ?_ | refine kl_step0 rfl rfl rfl fun K hK => ?_); go_simp; (try go_bits); (first | refine hK _ _ ?_ | refine hK _ ?_); clear hK K))
    exact kq_ret1 rfl rfl ⟨rfl, HB13.out⟩
  obtain rfl : wz = z0 := by simpa using hwz.symm
  clear hwz
  repeat (first | refine kw_seq ?_ | refine kw_region ?_ | refine kl_nil ?_ | refine kq_then ?_ | refine kw_ift rfl ?_ | refine kw_iff rfl ?_ | refine kw_skip ?_ | refine kl_ung rfl rfl ?_ | refine kl_skipg rfl rfl rfl rfl ?_ | (first | refine kl_move rfl rfl (.inl rfl) rfl rfl ?_ | refine kl_move rfl rfl (.inr rfl) rfl rfl ?_ | refine kl_const rfl rfl (.inl rfl) rfl ?_ | refine kl_const rfl rfl (.inr rfl) rfl ?_) | (refine kl_step rfl rfl rfl fun K hK => ?_; go_simp; (try go_bits); refine hK _ _ ?_; clear hK K))
  refine kl_call rfl rfl rfl Try.func27 rfl (by kernel_rfl) rfl ?_
  refine Calls.mono (cells8_any (some ⟨gY, 0, none⟩) 7 7 (symL 5 true 5 77 g0 g1 g2 g3 g4 g5 g6) w12 (symV_syms HL12.out (by omega)) (by omega) (symL_ok (by omega) (by omega))) ?_
  rintro e w13 ⟨A5, n5, c5, rfl, hq5, hn5, hc5, hb13, _⟩
  refine ⟨_, rfl, ?_⟩
  rw [symL_vs, new_cells] at hq5
  obtain rfl : n5 = 21 := by rw [← hq5.len]; rfl
  have HB13 := Lib.hid (below_then HB12.out hb13 HB12.out.size)
  clear hq5 hb13 HL12 HB12 a0 a1 v0
  repeat (first | refine kw_seq ?_ | refine kw_block ?_ | refine kw_skip ?_ | refine kw_region ?_ | refine kl_nil ?_ | refine kq_then ?_ | refine kq_block ?_ | refine kw_exit ?_ | refine kq_then_exit ?_ | refine kq_block_here rfl ?_ | refine kq_block_far rfl ?_ | refine kq_again_exit ?_ | refine kw_ret ?_ | refine kq_then_ret ?_ | refine kq_block_ret ?_ | refine kq_again_ret ?_ | refine kw_ift rfl ?_ | refine kw_iff rfl ?_ | refine kl_ung rfl rfl ?_ | refine kl_skipg rfl rfl rfl rfl ?_ | refine kl_skipg0 rfl rfl rfl ?_ | (first | refine kl_move rfl rfl (.inl rfl) rfl rfl ?_ | refine kl_move rfl rfl (.inr rfl) rfl rfl ?_ | refine kl_const rfl rfl (.inl rfl) rfl ?_ | refine kl_const rfl rfl (.inr rfl) rfl ?_) | ((first | refine kl_step rfl rfl rfl fun K hK => ?_ | refine kl_step0 rfl rfl rfl fun K hK => ?_); go_simp; (try go_bits); (first | refine hK _ _ ?_ | refine hK _ ?_); clear hK K))
  exact kq_ret1 rfl rfl ⟨rfl, HB13.out⟩
end Go.Proofs.Ytcpifcdndhhmgaa
