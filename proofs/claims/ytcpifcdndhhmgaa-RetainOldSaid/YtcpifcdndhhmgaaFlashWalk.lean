/- The flash memory's functions: what each returns and leaves. -/
import Derived.Test.YtcpifcdndhhmgaaKnV
import Derived.Test.YtcpifcdndhhmgaaRegion
import Derived.Deep.DeepCutAuto
import Derived.Deep.QuietTactic
import Derived.BigQuiet
set_option linter.unusedVariables false
set_option linter.unusedSimpArgs false
namespace Go.Proofs.Ytcpifcdndhhmgaa
open Go.RowKit

theorem is_any (s : Int) (w : World) : Calls Try.prog 43 #[.int .i64 s] w fun e w' => e = .returned (.bool (!decide (s < 0 ∨ 6 ≤ s))) ∧ w = w' := by
  by_cases h0 : (0 : Int) ≤ s
  · by_cases h6 : s < 6
    · rw [decide_eq_false (show ¬ (s < 0 ∨ 6 ≤ s) by omega)]
      go_enter Try.func43, Try.ntmps43
      go_wp2_with fail
      go_ret
      exact ⟨rfl, rfl⟩
    · rw [decide_eq_true (show s < 0 ∨ 6 ≤ s by omega)]
      go_enter Try.func43, Try.ntmps43
      go_wp2_with fail
      go_ret
      exact ⟨rfl, rfl⟩
  · rw [decide_eq_true (show s < 0 ∨ 6 ≤ s by omega)]
    go_enter Try.func43, Try.ntmps43
    go_wp2_with fail
    go_ret
    exact ⟨rfl, rfl⟩

set_option maxRecDepth 100000 in
theorem row_any (n : Nat) (hn : n ≤ 100000) (w : World) : Calls Try.prog 36 #[.int .i64 (n : Int)] w fun e w' =>
    e = .returned (.slice (some ⟨w.heap.size, 0, none⟩) n n) ∧ w'.heap[w.heap.size]? = some (.cells (bv (List.replicate n 255)).toArray 5 (0, 0)) ∧ Below w.heap.size w w' ∧ w.heap.size < w'.heap.size := by
  have hmk := makeBytes n (by omega) w
  go_enter Try.func36, Try.ntmps36
  go_wp2_with fail
  go_loopw [9] (fun i wr => ∃ (k : Nat), k ≤ n ∧ i = .int .i64 k ∧ wr.heap[w.heap.size]? = some (.cells (bv (List.replicate k 255 ++ List.replicate (n - k) 0)).toArray 5 (0, 0)) ∧ Below w.heap.size w wr) (fun i _ => n - (intOf i).toNat)
  case atStart => exact ⟨0, by omega, rfl, heap_alloc_new w _, (Below.refl _ w).alloc (Nat.le_refl _) _⟩
  case round =>
    obtain ⟨k, hk, rfl, hg, hbr⟩ := hrel
    by_cases hlt : k < n
    · have hk1 : (k : Int) < n := by omega
      have hk0 : (0 : Int) ≤ k := by omega
      have hl : (List.replicate k (255 : UInt8) ++ List.replicate (n - k) 0)[k]? = some 0 := by
        rw [List.getElem?_append_right (by simp), List.length_replicate, Nat.sub_self, List.getElem?_replicate, if_pos (by omega)]
      have c0 : wr.cell? ⟨w.heap.size, k, none⟩ = some (.int .u8 ((0 : UInt8).toNat : Int)) := cell_of_block hg (bv_at hl)
      have f0 : wr.frozen? ⟨w.heap.size, k, none⟩ = false := free_of_block hg
      have hg2 := block_setCell (i := k) (.int .u8 255) hg
      have e255 : (Value.int .u8 255) = .int .u8 ((255 : UInt8).toNat : Int) := rfl
      rw [e255, bv_set] at hg2
      have hset : (List.replicate k (255 : UInt8) ++ List.replicate (n - k) 0).set k 255 = List.replicate (k + 1) 255 ++ List.replicate (n - (k + 1)) 0 := by
        rw [List.set_append_right _ _ (by simp)]
        simp only [List.length_replicate, Nat.sub_self]
        rw [show n - k = (n - (k + 1)) + 1 by omega, List.replicate_succ, List.set_cons_zero, List.replicate_succ', List.append_assoc]
        rfl
      rw [hset] at hg2
      have HG2 := Lib.hid hg2
      clear hset hg2 hl hg e255 hmk
      go_wp2_with fail
      go_roundw
      case rel => exact ⟨k + 1, by omega, by go_num, HG2.out, hbr.setCell (p := ⟨w.heap.size, k, none⟩) (Nat.le_refl _) _⟩
      case measure => simp [intOf]; omega
    · obtain rfl : n = k := by omega
      rw [Nat.sub_self, List.replicate_zero, List.append_nil] at hg
      have HG := Lib.hid hg
      have hlt' := (Array.getElem?_eq_some_iff.1 hg).1
      clear hg hmk
      go_wp2_with fail
      go_ret
      exact ⟨rfl, HG.out, hbr, hlt'⟩

set_option maxRecDepth 100000 in
theorem bytes_any (A : Option Addr) (n c : Nat) (l : List UInt8) (w : World) (hA : Bs w A n l) (hn : n ≤ 1099511627776) : Calls Try.prog 44 #[.slice A n c] w fun e w' =>
    e = .returned (.slice (some ⟨w.heap.size, 0, none⟩) n n) ∧ w'.heap[w.heap.size]? = some (.cells (bv l).toArray 5 (0, 0)) ∧ Below w.heap.size w w' ∧ w.heap.size < w'.heap.size := by
  have hmk := makeBytes n (by omega) w
  have hl := hA.len
  have hz : (bv (List.replicate n (0 : UInt8))).length = n := by simp [bv]
  have hsp : splice (bv (List.replicate n (0 : UInt8))) 0 (bv (l.take (min n n))) = bv l := by
    rw [Nat.min_self, hA.all]
    unfold splice
    rw [List.take_zero, List.nil_append, Nat.zero_add, length_bv, hl, List.drop_of_length_le (by rw [hz]; exact Nat.le_refl _), List.append_nil]
  generalize List.replicate n (0 : UInt8) = Z at hmk hz hsp
  have HZ := Lib.hid hz
  have HS := Lib.hid hsp
  clear hz hsp hl
  go_enter Try.func44, Try.ntmps44
  go_upto_region 2 with fail
  go_wp2_with (refine copyB rfl (.tmp 7) (.tmp 8) rfl w.heap.size 0 n n A n c l rfl rfl (hA.alloc _) (bv Z) _ (heap_alloc_new w _) (by have := HZ.out; rw [this]; omega) w.heap.size w ((Below.refl _ w).alloc (Nat.le_refl _) _) (Nat.le_refl _) ?_; intro w2 hw2 hb2; rw [HS.out] at hw2)
  go_ret
  exact ⟨rfl, hw2.out, hb2, (Array.getElem?_eq_some_iff.1 hw2.out).1⟩

set_option maxRecDepth 100000 in
theorem spend_any (Q : Nat → Prop) (g : Nat) (hQ : ∀ b, Q b → b ≠ g) (f : FlashSt) (w : World) (h : FS Q w g f) :
    Calls Try.prog 91 #[.pointer (some ⟨g, 0, none⟩)] w fun r w' => r = .returned (.bool (!(spendF f).dead)) ∧ FS Q w' g (spendF f) ∧ w.grownBy w' (some g) := by
  obtain ⟨A, n, c, hg, hS, hl0, hl1, hB, hn, hc, ha⟩ := h
  have c0 := fl_left hg
  have c1 := fl_done hg
  have c3 := fl_dead hg
  have f0 : w.frozen? ⟨g, 0, none⟩ = false := free_of_block hg
  have f1 : w.frozen? ⟨g, 1, none⟩ = false := free_of_block hg
  have f3 : w.frozen? ⟨g, 3, none⟩ = false := free_of_block hg
  have h1 := block_setCell (i := 1) (.int .i64 (wrap64 (f.done + 1))) hg
  rw [fl_setDone] at h1
  have H1 := Lib.hid h1
  clear hg h1
  by_cases h0 : 0 < f.left
  · have hsp : spendF f = { f with done := wrap64 (f.done + 1), left := f.left - 1, dead := f.left - 1 == 0 } := by unfold spendF; rw [if_pos h0]
    have h2 := block_setCell (i := 0) (.int .i64 (f.left - 1)) H1.out
    rw [fl_setLeft] at h2
    have h3 := block_setCell (i := 3) (.bool (f.left - 1 == 0)) h2
    rw [fl_setDead] at h3
    have H3 := Lib.hid h3
    have HP := Lib.hid hsp
    clear h2 h3 hsp
    go_enter Try.func91, Try.ntmps91
    go_wp2_with fail
    go_ret
    rw [HP.out]
    refine ⟨rfl, ⟨A, n, c, H3.out, hS, by show 0 ≤ f.left - 1; omega, by show f.left - 1 ≤ _; omega, ?_, hn, hc, ha⟩, grown_trans (grown_set _ _ _ _) (grown_trans (grown_set _ _ _ _) (grown_set _ _ _ _))⟩
    exact hB.grownKeep (grown_trans (grown_set _ _ _ _) (grown_trans (grown_set _ _ _ _) (grown_set _ _ _ _))) (ha.away hQ)
  · have hsp : spendF f = { f with done := wrap64 (f.done + 1) } := by unfold spendF; rw [if_neg h0]
    have HP := Lib.hid hsp
    clear hsp
    go_enter Try.func91, Try.ntmps91
    go_wp2_with fail
    go_ret
    rw [HP.out]
    exact ⟨rfl, ⟨A, n, c, H1.out, hS, hl0, hl1, hB.grownKeep (grown_set _ _ _ _) (ha.away hQ), hn, hc, ha⟩, grown_set _ _ _ _⟩

theorem lay_parts (x y m : UInt8) : ∃ p q r : UInt8, bits .andNot .u8 (x.toNat : Int) (m.toNat : Int) = (p.toNat : Int) ∧ bits .and .u8 (y.toNat : Int) (m.toNat : Int) = (q.toNat : Int) ∧ bits .or .u8 (p.toNat : Int) (q.toNat : Int) = (r.toNat : Int) ∧ Hid (r = layB m x y) :=
  ⟨x &&& ~~~m, y &&& m, layB m x y, u8n_andNot x m, u8n_and y m, u8n_or _ _, rfl⟩
set_option maxRecDepth 100000 in
set_option maxHeartbeats 1000000 in
theorem lay_any (Q : Nat → Prop) (g : Nat) (hQ : ∀ b, Q b → b ≠ g) (f : FlashSt) (off n cap : Nat) (B : Option Addr) (m2 c2 : Nat) (tb : List UInt8) (w : World) (h : FS Q w g f) (hoff : off + n ≤ 6144) (hB : Bs w B m2 tb) (hBa : 0 < m2 → Away g B) (hm : n ≤ m2) (hm2 : m2 ≤ c2) (hcap : n ≤ cap) (hcap2 : cap ≤ 6144) (hc9 : c2 ≤ 9223372036854775807) :
    Calls Try.prog 61 #[.pointer (some ⟨g, 0, none⟩), .slice (some ⟨g, 4 + off, none⟩) n cap, .slice B m2 c2] w fun r w' =>
      r = .returned (.int .i64 (if (spendF f).dead = true then 14 else 0)) ∧ FS Q w' g { spendF f with S := layS (!(spendF f).dead) f.mask tb off n f.S } ∧ w.grownBy w' (some g) := by
  rw [← spendF_mask f, ← spendF_S f]
  have hsp := spend_any Q g hQ f w h
  generalize spendF f = f1 at hsp ⊢
  go_enter Try.func61, Try.ntmps61
  go_upto_region 2 with (go_at_call 91; refine Calls.mono hsp ?_; rintro r w1 ⟨rfl, hf1, hgr1⟩)
  have hB1 := hB.grownKeep0 hgr1 hBa
  clear hB h hsp
  obtain ⟨A0, n0, c0, hg, hS, hl0, hl1, hMB, hn0, hc0, ha⟩ := hf1
  have HS := Lib.hid hS
  clear hS
  have hmlen := hMB.len
  have HML := Lib.hid hmlen
  clear hmlen
  have HG := Lib.hid hg
  have hglt := (Array.getElem?_eq_some_iff.1 hg).1
  clear hg
  have hfin : ∀ wr : World, wr.heap[g]? = some (.cells (flashCells { f1 with S := layS (!f1.dead) f1.mask tb off n f1.S } A0 n0 c0).toArray 43 (0, 0)) → w1.grownBy wr (some g) → FS Q wr g { f1 with S := layS (!f1.dead) f1.mask tb off n f1.S } ∧ w.grownBy wr (some g) := fun wr h1 h2 =>
    ⟨⟨A0, n0, c0, h1, by rw [length_layS]; exact HS.out, hl0, hl1, hMB.grownKeep h2 (ha.away hQ), hn0, hc0, ha⟩, grown_trans hgr1 h2⟩
  cases hd : f1.dead
  · rw [hd] at hfin
    simp only [Bool.not_false] at hfin ⊢
    go_wp2_with fail
    go_loopw [14] (fun i wr => ∃ (k : Nat), k ≤ n ∧ i = .int .i64 k ∧ wr.heap[g]? = some (.cells (flashCells { f1 with S := layS (!f1.dead) f1.mask tb off k f1.S } A0 n0 c0).toArray 43 (0, 0)) ∧ w1.grownBy wr (some g)) (fun i _ => n - (intOf i).toNat)
    case atStart => exact ⟨0, by omega, rfl, HG.out, grown_refl _ _⟩
    case round =>
      obtain ⟨k, hk, rfl, hgk, hgr⟩ := hrel
      by_cases hlt : k < n
      · have hk1 : (k : Int) < n := by omega
        have hk0 : (0 : Int) ≤ k := by omega
        have hk2 : (k : Int) < m2 := by omega
        obtain ⟨b, o, y, hBe, cy, _, hy⟩ := hB1.next (k := k) (by omega)
        subst hBe
        have hyv : Hid (y = tb.getD k 0) := by
          have := hy.out
          show y = tb.getD k 0
          rw [List.getD_eq_getElem?_getD, this]
          rfl
        have hbg : b ≠ g := by
          have := hBa (by omega) _ rfl
          exact this
        have cy := hgr.cell cy (fun e => hbg (by injection e))
        have hSl : off + k < (layS (!f1.dead) f1.mask tb off k f1.S).length := by rw [length_layS, HS.out]; omega
        have cx0 := fl_byte (i := off + k) hgk hSl
        rw [← Nat.add_assoc] at cx0
        obtain ⟨x, hxv⟩ : ∃ x : UInt8, Hid (x = (layS (!f1.dead) f1.mask tb off k f1.S).getD (off + k) 0) := ⟨_, rfl⟩
        have cx : wr.cell? ⟨g, 4 + off + k, none⟩ = some (.int .u8 (x.toNat : Int)) := by rw [hxv.out]; exact cx0
        have HGK := Lib.hid hgk
        have hmk0 := fl_mask hgk
        clear cx0 hSl hgk hy hB1
        have hko : (k : Int) < cap := by omega
        obtain ⟨m, hmv, hm255⟩ : ∃ m : UInt8, Hid (m = mByte (!f1.dead) f1.mask k) ∧ m = 255 := ⟨255, by show 255 = mByte (!f1.dead) f1.mask k; rw [hd]; rfl, rfl⟩
        have h255 : (255 : Int) = (m.toNat : Int) := by rw [hm255]; rfl
        clear hm255
        obtain ⟨p, q, r, hpe, hqe, hre, hrv⟩ := lay_parts x y m
        go_upto_region 10 with fail
        rw [h255]
        clear h255
        refine wp_region_fresh_tail 16 [Is (.slice (some ⟨g, 4 + off, none⟩) n cap), Is (.int .i64 (k : Int)), Is (.slice (some ⟨g, 4 + off, none⟩) n cap), Is (.int .i64 (k : Int)), Is (.pointer (some ⟨g, 4 + off + k, none⟩)), Is (.int .u8 (x.toNat : Int)), Is (.int .u8 (m.toNat : Int)), Is (.int .u8 (p.toNat : Int)), Is (.slice (some ⟨b, o, none⟩) m2 c2), Is (.int .i64 (k : Int)), Is (.pointer (some ⟨b, o + k, none⟩)), Is (.int .u8 (y.toNat : Int)), Is (.int .u8 (m.toNat : Int)), Is (.int .u8 (q.toNat : Int)), Is (.int .u8 (r.toNat : Int)), Is (.pointer (some ⟨g, 4 + off + k, none⟩))]
          [[(1, none)], [(8, none)], [(1, none)], [(8, none)], [(41, some 2), (42, some 3)], [(43, some 4)], [(9, none)], [(44, some 5), (45, some 6)], [(2, none)], [(8, none)], [(47, some 8), (48, some 9)], [(49, some 10)], [(9, none)], [(50, some 11), (51, some 12)], [(46, some 7), (52, some 13)], [(39, some 0), (40, some 1)]]
          (by kernel_rfl) (by kernel_rfl) (by kernel_rfl) (by kernel_rfl)
          ⟨mono_is _, mono_is _, mono_is _, mono_is _, mono_is _, mono_is _, mono_is _, mono_is _, mono_is _, mono_is _, mono_is _, mono_is _, mono_is _, mono_is _, mono_is _, mono_is _, trivial⟩ ?vc ?fin
        case vc =>
          refine ⟨?_, ?_, ?_, ?_, ?_, ?_, ?_, ?_, ?_, ?_, ?_, ?_, ?_, ?_, ?_, ?_, trivial⟩
          · exact vf_none rfl (f_mov (.inl rfl) fun A W _ h => h.1)
          · exact vf_none rfl (f_mov (.inl rfl) fun A W _ h => h.1)
          · exact vf_none rfl (f_mov (.inl rfl) fun A W _ h => h.1)
          · exact vf_none rfl (f_mov (.inl rfl) fun A W _ h => h.1)
          · refine vf_none rfl (f_run fun A' W hR h => ?_)
            obtain ⟨h41, h42, _⟩ := h
            replace h41 : A'.tmps[41]?.getD undef = _ := h41
            replace h42 : A'.tmps[42]?.getD undef = _ := h42
            refine ⟨_, W, ?_, Below.refl _ _, rfl⟩
            go_simp
            all_goals omega
          · refine vf_none rfl (f_run fun A' W hR h => ?_)
            obtain ⟨h43, _⟩ := h
            replace h43 : A'.tmps[43]?.getD undef = _ := h43
            have hc := Keeps.of_below hR _ _ cx
            refine ⟨_, W, ?_, Below.refl _ _, rfl⟩
            go_simp
          · exact vf_none rfl (f_mov (.inl rfl) fun A W _ h => h.1)
          · refine vf_none rfl (f_run fun A' W hR h => ?_)
            obtain ⟨h44, h45, _⟩ := h
            replace h44 : A'.tmps[44]?.getD undef = _ := h44
            replace h45 : A'.tmps[45]?.getD undef = _ := h45
            refine ⟨_, W, ?_, Below.refl _ _, rfl⟩
            go_simp
            all_goals exact hpe
          · exact vf_none rfl (f_mov (.inl rfl) fun A W _ h => h.1)
          · exact vf_none rfl (f_mov (.inl rfl) fun A W _ h => h.1)
          · refine vf_none rfl (f_run fun A' W hR h => ?_)
            obtain ⟨h47, h48, _⟩ := h
            replace h47 : A'.tmps[47]?.getD undef = _ := h47
            replace h48 : A'.tmps[48]?.getD undef = _ := h48
            refine ⟨_, W, ?_, Below.refl _ _, rfl⟩
            go_simp
            all_goals omega
          · refine vf_none rfl (f_run fun A' W hR h => ?_)
            obtain ⟨h49, _⟩ := h
            replace h49 : A'.tmps[49]?.getD undef = _ := h49
            have hc := Keeps.of_below hR _ _ cy
            refine ⟨_, W, ?_, Below.refl _ _, rfl⟩
            go_simp
          · exact vf_none rfl (f_mov (.inl rfl) fun A W _ h => h.1)
          · refine vf_none rfl (f_run fun A' W hR h => ?_)
            obtain ⟨h50, h51, _⟩ := h
            replace h50 : A'.tmps[50]?.getD undef = _ := h50
            replace h51 : A'.tmps[51]?.getD undef = _ := h51
            refine ⟨_, W, ?_, Below.refl _ _, rfl⟩
            go_simp
            all_goals exact hqe
          · refine vf_none rfl (f_run fun A' W hR h => ?_)
            obtain ⟨h46, h52, _⟩ := h
            replace h46 : A'.tmps[46]?.getD undef = _ := h46
            replace h52 : A'.tmps[52]?.getD undef = _ := h52
            refine ⟨_, W, ?_, Below.refl _ _, rfl⟩
            go_simp
            all_goals exact hre
          · refine vf_none rfl (f_run fun A' W hR h => ?_)
            obtain ⟨h39, h40, _⟩ := h
            replace h39 : A'.tmps[39]?.getD undef = _ := h39
            replace h40 : A'.tmps[40]?.getD undef = _ := h40
            refine ⟨_, W, ?_, Below.refl _ _, rfl⟩
            go_simp
            all_goals omega
        case fin =>
          intro A' W hd hs hR he hr
          obtain ⟨e0, e1, e2, e3, e4, e5, e6, e7, e8, e9, e10, e11, e12, e13, e14, e15, _⟩ := he
          have hA' := act_after [39, 40, 41, 42, 43, 44, 45, 46, 47, 48, 49, 50, 51, 52, 53, 54] rfl hd hs hr
          clear hd hs hr
          replace e0 : A'.tmps[39]?.getD undef = _ := e0
          replace e1 : A'.tmps[40]?.getD undef = _ := e1
          replace e2 : A'.tmps[41]?.getD undef = _ := e2
          replace e3 : A'.tmps[42]?.getD undef = _ := e3
          replace e4 : A'.tmps[43]?.getD undef = _ := e4
          replace e5 : A'.tmps[44]?.getD undef = _ := e5
          replace e6 : A'.tmps[45]?.getD undef = _ := e6
          replace e7 : A'.tmps[46]?.getD undef = _ := e7
          replace e8 : A'.tmps[47]?.getD undef = _ := e8
          replace e9 : A'.tmps[48]?.getD undef = _ := e9
          replace e10 : A'.tmps[49]?.getD undef = _ := e10
          replace e11 : A'.tmps[50]?.getD undef = _ := e11
          replace e12 : A'.tmps[51]?.getD undef = _ := e12
          replace e13 : A'.tmps[52]?.getD undef = _ := e13
          replace e14 : A'.tmps[53]?.getD undef = _ := e14
          replace e15 : A'.tmps[54]?.getD undef = _ := e15
          simp only [frameAfter, List.contains_cons, List.contains_nil, Nat.reduceBEq, Bool.or_false, Bool.or_true, Bool.or_self, Bool.false_or, Bool.true_or, Bool.false_eq_true, if_true, if_false, Nat.reduceAdd, e0, e1, e2, e3, e4, e5, e6, e7, e8, e9, e10, e11, e12, e13, e14, e15] at hA'
          subst hA'
          clear e0 e1 e2 e3 e4 e5 e6 e7 e8 e9 e10 e11 e12 e13 e14 e15
          have hg' : W.heap[g]? = some (.cells (flashCells { f1 with S := layS (!f1.dead) f1.mask tb off k f1.S } A0 n0 c0).toArray 43 (0, 0)) := by rw [hR.block g (Array.getElem?_eq_some_iff.1 HGK.out).1]; exact HGK.out
          have fx : W.frozen? ⟨g, 4 + off + k, none⟩ = false := free_of_block hg'
          have cxw := Keeps.of_below hR _ _ cx
          have hg2 := block_setCell (i := 4 + off + k) (.int .u8 (r.toNat : Int)) hg'
          rw [fl_setByte2] at hg2
          have hS' : (layS (!f1.dead) f1.mask tb off k f1.S).set (off + k) r = layS (!f1.dead) f1.mask tb off (k + 1) f1.S := by
            rw [hrv.out, hxv.out, hyv.out, hmv.out]; rfl
          dsimp only at hg2
          rw [hS'] at hg2
          have hgr' := grown_trans (grown_trans hgr (grown_below hR _)) (grown_set W g (4 + off + k) (.int .u8 (r.toNat : Int)))
          have HG2 := Lib.hid hg2
          clear hg' hg2 hS'
          go_wp2_with fail
          go_roundw
          case rel => exact ⟨k + 1, by omega, by go_num, HG2.out, hgr'⟩
          case measure => simp [intOf]; omega
      · obtain rfl : n = k := by omega
        rw [hd] at hgk
        have hend := hfin wr hgk hgr
        clear hgk hfin
        go_wp2_with fail
        all_goals
          go_ret
          exact ⟨rfl, hend.1, hend.2⟩
  · rw [hd] at hfin
    simp only [Bool.not_true] at hfin ⊢
    by_cases hn00 : n0 = 0
    · go_wp2_with fail
      go_loopw [14] (fun i wr => ∃ (k : Nat), k ≤ n ∧ i = .int .i64 k ∧ wr.heap[g]? = some (.cells (flashCells { f1 with S := layS (!f1.dead) f1.mask tb off k f1.S } A0 n0 c0).toArray 43 (0, 0)) ∧ w1.grownBy wr (some g)) (fun i _ => n - (intOf i).toNat)
      case atStart => exact ⟨0, by omega, rfl, HG.out, grown_refl _ _⟩
      case round =>
        obtain ⟨k, hk, rfl, hgk, hgr⟩ := hrel
        by_cases hlt : k < n
        · have hk1 : (k : Int) < n := by omega
          have hk0 : (0 : Int) ≤ k := by omega
          have hk2 : (k : Int) < m2 := by omega
          obtain ⟨b, o, y, hBe, cy, _, hy⟩ := hB1.next (k := k) (by omega)
          subst hBe
          have hyv : Hid (y = tb.getD k 0) := by
            have := hy.out
            show y = tb.getD k 0
            rw [List.getD_eq_getElem?_getD, this]
            rfl
          have hbg : b ≠ g := by
            have := hBa (by omega) _ rfl
            exact this
          have cy := hgr.cell cy (fun e => hbg (by injection e))
          have hSl : off + k < (layS (!f1.dead) f1.mask tb off k f1.S).length := by rw [length_layS, HS.out]; omega
          have cx0 := fl_byte (i := off + k) hgk hSl
          rw [← Nat.add_assoc] at cx0
          obtain ⟨x, hxv⟩ : ∃ x : UInt8, Hid (x = (layS (!f1.dead) f1.mask tb off k f1.S).getD (off + k) 0) := ⟨_, rfl⟩
          have cx : wr.cell? ⟨g, 4 + off + k, none⟩ = some (.int .u8 (x.toNat : Int)) := by rw [hxv.out]; exact cx0
          have HGK := Lib.hid hgk
          have hmk0 := fl_mask hgk
          clear cx0 hSl hgk hy hB1
          have hko : (k : Int) < cap := by omega
          have hn00i : ¬ (0 : Int) < n0 := by omega
          obtain ⟨m, hmv, hm0⟩ : ∃ m : UInt8, Hid (m = mByte (!f1.dead) f1.mask k) ∧ m = 0 := ⟨0, by show 0 = mByte (!f1.dead) f1.mask k; unfold mByte; rw [hd, if_neg (by simp), if_pos (by rw [HML.out]; exact hn00)], rfl⟩
          obtain ⟨p, q, r, hpe, hqe, hre, hrv⟩ := lay_parts x y m
          have hmz : (m.toNat : Int) = 0 := by rw [hm0]; rfl
          rw [hmz] at hpe hqe
          clear hm0 hmz
          go_upto_region 10 with fail
          refine wp_region_fresh_tail 16 [Is (.slice (some ⟨g, 4 + off, none⟩) n cap), Is (.int .i64 (k : Int)), Is (.slice (some ⟨g, 4 + off, none⟩) n cap), Is (.int .i64 (k : Int)), Is (.pointer (some ⟨g, 4 + off + k, none⟩)), Is (.int .u8 (x.toNat : Int)), Is (.int .u8 0), Is (.int .u8 (p.toNat : Int)), Is (.slice (some ⟨b, o, none⟩) m2 c2), Is (.int .i64 (k : Int)), Is (.pointer (some ⟨b, o + k, none⟩)), Is (.int .u8 (y.toNat : Int)), Is (.int .u8 0), Is (.int .u8 (q.toNat : Int)), Is (.int .u8 (r.toNat : Int)), Is (.pointer (some ⟨g, 4 + off + k, none⟩))]
            [[(1, none)], [(8, none)], [(1, none)], [(8, none)], [(41, some 2), (42, some 3)], [(43, some 4)], [(9, none)], [(44, some 5), (45, some 6)], [(2, none)], [(8, none)], [(47, some 8), (48, some 9)], [(49, some 10)], [(9, none)], [(50, some 11), (51, some 12)], [(46, some 7), (52, some 13)], [(39, some 0), (40, some 1)]]
            (by kernel_rfl) (by kernel_rfl) (by kernel_rfl) (by kernel_rfl)
            ⟨mono_is _, mono_is _, mono_is _, mono_is _, mono_is _, mono_is _, mono_is _, mono_is _, mono_is _, mono_is _, mono_is _, mono_is _, mono_is _, mono_is _, mono_is _, mono_is _, trivial⟩ ?vc ?fin
          case vc =>
            refine ⟨?_, ?_, ?_, ?_, ?_, ?_, ?_, ?_, ?_, ?_, ?_, ?_, ?_, ?_, ?_, ?_, trivial⟩
            · exact vf_none rfl (f_mov (.inl rfl) fun A W _ h => h.1)
            · exact vf_none rfl (f_mov (.inl rfl) fun A W _ h => h.1)
            · exact vf_none rfl (f_mov (.inl rfl) fun A W _ h => h.1)
            · exact vf_none rfl (f_mov (.inl rfl) fun A W _ h => h.1)
            · refine vf_none rfl (f_run fun A' W hR h => ?_)
              obtain ⟨h41, h42, _⟩ := h
              replace h41 : A'.tmps[41]?.getD undef = _ := h41
              replace h42 : A'.tmps[42]?.getD undef = _ := h42
              refine ⟨_, W, ?_, Below.refl _ _, rfl⟩
              go_simp
              all_goals omega
            · refine vf_none rfl (f_run fun A' W hR h => ?_)
              obtain ⟨h43, _⟩ := h
              replace h43 : A'.tmps[43]?.getD undef = _ := h43
              have hc := Keeps.of_below hR _ _ cx
              refine ⟨_, W, ?_, Below.refl _ _, rfl⟩
              go_simp
            · exact vf_none rfl (f_mov (.inl rfl) fun A W _ h => h.1)
            · refine vf_none rfl (f_run fun A' W hR h => ?_)
              obtain ⟨h44, h45, _⟩ := h
              replace h44 : A'.tmps[44]?.getD undef = _ := h44
              replace h45 : A'.tmps[45]?.getD undef = _ := h45
              refine ⟨_, W, ?_, Below.refl _ _, rfl⟩
              go_simp
              all_goals exact hpe
            · exact vf_none rfl (f_mov (.inl rfl) fun A W _ h => h.1)
            · exact vf_none rfl (f_mov (.inl rfl) fun A W _ h => h.1)
            · refine vf_none rfl (f_run fun A' W hR h => ?_)
              obtain ⟨h47, h48, _⟩ := h
              replace h47 : A'.tmps[47]?.getD undef = _ := h47
              replace h48 : A'.tmps[48]?.getD undef = _ := h48
              refine ⟨_, W, ?_, Below.refl _ _, rfl⟩
              go_simp
              all_goals omega
            · refine vf_none rfl (f_run fun A' W hR h => ?_)
              obtain ⟨h49, _⟩ := h
              replace h49 : A'.tmps[49]?.getD undef = _ := h49
              have hc := Keeps.of_below hR _ _ cy
              refine ⟨_, W, ?_, Below.refl _ _, rfl⟩
              go_simp
            · exact vf_none rfl (f_mov (.inl rfl) fun A W _ h => h.1)
            · refine vf_none rfl (f_run fun A' W hR h => ?_)
              obtain ⟨h50, h51, _⟩ := h
              replace h50 : A'.tmps[50]?.getD undef = _ := h50
              replace h51 : A'.tmps[51]?.getD undef = _ := h51
              refine ⟨_, W, ?_, Below.refl _ _, rfl⟩
              go_simp
              all_goals exact hqe
            · refine vf_none rfl (f_run fun A' W hR h => ?_)
              obtain ⟨h46, h52, _⟩ := h
              replace h46 : A'.tmps[46]?.getD undef = _ := h46
              replace h52 : A'.tmps[52]?.getD undef = _ := h52
              refine ⟨_, W, ?_, Below.refl _ _, rfl⟩
              go_simp
              all_goals exact hre
            · refine vf_none rfl (f_run fun A' W hR h => ?_)
              obtain ⟨h39, h40, _⟩ := h
              replace h39 : A'.tmps[39]?.getD undef = _ := h39
              replace h40 : A'.tmps[40]?.getD undef = _ := h40
              refine ⟨_, W, ?_, Below.refl _ _, rfl⟩
              go_simp
              all_goals omega
          case fin =>
            intro A' W hd hs hR he hr
            obtain ⟨e0, e1, e2, e3, e4, e5, e6, e7, e8, e9, e10, e11, e12, e13, e14, e15, _⟩ := he
            have hA' := act_after [39, 40, 41, 42, 43, 44, 45, 46, 47, 48, 49, 50, 51, 52, 53, 54] rfl hd hs hr
            clear hd hs hr
            replace e0 : A'.tmps[39]?.getD undef = _ := e0
            replace e1 : A'.tmps[40]?.getD undef = _ := e1
            replace e2 : A'.tmps[41]?.getD undef = _ := e2
            replace e3 : A'.tmps[42]?.getD undef = _ := e3
            replace e4 : A'.tmps[43]?.getD undef = _ := e4
            replace e5 : A'.tmps[44]?.getD undef = _ := e5
            replace e6 : A'.tmps[45]?.getD undef = _ := e6
            replace e7 : A'.tmps[46]?.getD undef = _ := e7
            replace e8 : A'.tmps[47]?.getD undef = _ := e8
            replace e9 : A'.tmps[48]?.getD undef = _ := e9
            replace e10 : A'.tmps[49]?.getD undef = _ := e10
            replace e11 : A'.tmps[50]?.getD undef = _ := e11
            replace e12 : A'.tmps[51]?.getD undef = _ := e12
            replace e13 : A'.tmps[52]?.getD undef = _ := e13
            replace e14 : A'.tmps[53]?.getD undef = _ := e14
            replace e15 : A'.tmps[54]?.getD undef = _ := e15
            simp only [frameAfter, List.contains_cons, List.contains_nil, Nat.reduceBEq, Bool.or_false, Bool.or_true, Bool.or_self, Bool.false_or, Bool.true_or, Bool.false_eq_true, if_true, if_false, Nat.reduceAdd, e0, e1, e2, e3, e4, e5, e6, e7, e8, e9, e10, e11, e12, e13, e14, e15] at hA'
            subst hA'
            clear e0 e1 e2 e3 e4 e5 e6 e7 e8 e9 e10 e11 e12 e13 e14 e15
            have hg' : W.heap[g]? = some (.cells (flashCells { f1 with S := layS (!f1.dead) f1.mask tb off k f1.S } A0 n0 c0).toArray 43 (0, 0)) := by rw [hR.block g (Array.getElem?_eq_some_iff.1 HGK.out).1]; exact HGK.out
            have fx : W.frozen? ⟨g, 4 + off + k, none⟩ = false := free_of_block hg'
            have cxw := Keeps.of_below hR _ _ cx
            have hg2 := block_setCell (i := 4 + off + k) (.int .u8 (r.toNat : Int)) hg'
            rw [fl_setByte2] at hg2
            have hS' : (layS (!f1.dead) f1.mask tb off k f1.S).set (off + k) r = layS (!f1.dead) f1.mask tb off (k + 1) f1.S := by
              rw [hrv.out, hxv.out, hyv.out, hmv.out]; rfl
            dsimp only at hg2
            rw [hS'] at hg2
            have hgr' := grown_trans (grown_trans hgr (grown_below hR _)) (grown_set W g (4 + off + k) (.int .u8 (r.toNat : Int)))
            have HG2 := Lib.hid hg2
            clear hg' hg2 hS'
            go_wp2_with fail
            go_roundw
            case rel => exact ⟨k + 1, by omega, by go_num, HG2.out, hgr'⟩
            case measure => simp [intOf]; omega
        · obtain rfl : n = k := by omega
          rw [hd] at hgk
          have hend := hfin wr hgk hgr
          clear hgk hfin
          go_wp2_with fail
          all_goals
            go_ret
            exact ⟨rfl, hend.1, hend.2⟩
    · have hn0p : 0 < n0 := by omega
      have hn0i : (0 : Int) < n0 := by omega
      go_wp2_with fail
      go_loopw [14] (fun i wr => ∃ (k : Nat), k ≤ n ∧ i = .int .i64 k ∧ wr.heap[g]? = some (.cells (flashCells { f1 with S := layS (!f1.dead) f1.mask tb off k f1.S } A0 n0 c0).toArray 43 (0, 0)) ∧ w1.grownBy wr (some g)) (fun i _ => n - (intOf i).toNat)
      case atStart => exact ⟨0, by omega, rfl, HG.out, grown_refl _ _⟩
      case round =>
        obtain ⟨k, hk, rfl, hgk, hgr⟩ := hrel
        by_cases hlt : k < n
        · have hk1 : (k : Int) < n := by omega
          have hk0 : (0 : Int) ≤ k := by omega
          have hk2 : (k : Int) < m2 := by omega
          obtain ⟨b, o, y, hBe, cy, _, hy⟩ := hB1.next (k := k) (by omega)
          subst hBe
          have hyv : Hid (y = tb.getD k 0) := by
            have := hy.out
            show y = tb.getD k 0
            rw [List.getD_eq_getElem?_getD, this]
            rfl
          have hbg : b ≠ g := by
            have := hBa (by omega) _ rfl
            exact this
          have cy := hgr.cell cy (fun e => hbg (by injection e))
          have hSl : off + k < (layS (!f1.dead) f1.mask tb off k f1.S).length := by rw [length_layS, HS.out]; omega
          have cx0 := fl_byte (i := off + k) hgk hSl
          rw [← Nat.add_assoc] at cx0
          obtain ⟨x, hxv⟩ : ∃ x : UInt8, Hid (x = (layS (!f1.dead) f1.mask tb off k f1.S).getD (off + k) 0) := ⟨_, rfl⟩
          have cx : wr.cell? ⟨g, 4 + off + k, none⟩ = some (.int .u8 (x.toNat : Int)) := by rw [hxv.out]; exact cx0
          have HGK := Lib.hid hgk
          have hmk0 := fl_mask hgk
          clear cx0 hSl hgk hy hB1
          have hko : (k : Int) < cap := by omega
          have hkm : k % n0 < n0 := Nat.mod_lt _ hn0p
          have hMBr := hMB.grownKeep hgr (ha.away hQ)
          obtain ⟨mb, mo, m, hAe, cm, _, hm2'⟩ := hMBr.next (k := k % n0) hkm
          have hmv : Hid (m = mByte (!f1.dead) f1.mask k) := by
            show m = mByte (!f1.dead) f1.mask k
            unfold mByte
            rw [hd, if_neg (by simp), if_neg (by rw [HML.out]; omega), HML.out, List.getD_eq_getElem?_getD, hm2'.out]
            rfl
          clear hm2' hMBr
          obtain ⟨p, q, r, hpe, hqe, hre, hrv⟩ := lay_parts x y m
          have htm : Int.tmod (k : Int) (n0 : Int) = ((k % n0 : Nat) : Int) := rfl
          generalize hkm' : k % n0 = km at hkm cm htm
          have hkm0 : (0 : Int) ≤ km := by omega
          have hkm1 : (km : Int) < n0 := by omega
          clear hkm'
          subst hAe
          go_upto_region 9 with fail
          refine wp_region_fresh [Is (.pointer (some ⟨g, 0, none⟩)), Is (.pointer (some ⟨g, 0, none⟩)), Is (.pointer (some ⟨g, 2, none⟩)), Is (.slice (some ⟨mb, mo, none⟩) n0 c0), Is (.int .i64 (k : Int)), Is (.pointer (some ⟨g, 0, none⟩)), Is (.pointer (some ⟨g, 0, none⟩)), Is (.pointer (some ⟨g, 2, none⟩)), Is (.slice (some ⟨mb, mo, none⟩) n0 c0), Is (.int .i64 (n0 : Int)), Is (.int .i64 (km : Int)), Is (.pointer (some ⟨mb, mo + km, none⟩)), Is (.int .u8 (m.toNat : Int)), Is (.int .u8 (m.toNat : Int))]
            [[(0, none)], [(26, some 0)], [(27, some 1)], [(28, some 2)], [(8, none)], [(0, none)], [(31, some 5)], [(32, some 6)], [(33, some 7)], [(34, some 8)], [(30, some 4), (35, some 9)], [(29, some 3), (36, some 10)], [(37, some 11)], [(38, some 12)]]
            (by kernel_rfl) (by kernel_rfl) (by kernel_rfl)
            ⟨mono_is _, mono_is _, mono_is _, mono_is _, mono_is _, mono_is _, mono_is _, mono_is _, mono_is _, mono_is _, mono_is _, mono_is _, mono_is _, mono_is _, trivial⟩ ?vc ?fin
          case vc =>
            refine ⟨?_, ?_, ?_, ?_, ?_, ?_, ?_, ?_, ?_, ?_, ?_, ?_, ?_, ?_, trivial⟩
            · exact vf_none rfl (f_mov (.inl rfl) fun A W _ h => h.1)
            · refine vf_none rfl (f_run fun A' W hR h => ?_)
              obtain ⟨h26, _⟩ := h
              replace h26 : A'.tmps[26]?.getD undef = _ := h26
              refine ⟨_, W, ?_, Below.refl _ _, rfl⟩
              go_simp
            · refine vf_none rfl (f_run fun A' W hR h => ?_)
              obtain ⟨h27, _⟩ := h
              replace h27 : A'.tmps[27]?.getD undef = _ := h27
              refine ⟨_, W, ?_, Below.refl _ _, rfl⟩
              go_simp
            · refine vf_none rfl (f_run fun A' W hR h => ?_)
              obtain ⟨h28, _⟩ := h
              replace h28 : A'.tmps[28]?.getD undef = _ := h28
              have hc := Keeps.of_below hR _ _ hmk0
              refine ⟨_, W, ?_, Below.refl _ _, rfl⟩
              go_simp
            · exact vf_none rfl (f_mov (.inl rfl) fun A W _ h => h.1)
            · exact vf_none rfl (f_mov (.inl rfl) fun A W _ h => h.1)
            · refine vf_none rfl (f_run fun A' W hR h => ?_)
              obtain ⟨h31, _⟩ := h
              replace h31 : A'.tmps[31]?.getD undef = _ := h31
              refine ⟨_, W, ?_, Below.refl _ _, rfl⟩
              go_simp
            · refine vf_none rfl (f_run fun A' W hR h => ?_)
              obtain ⟨h32, _⟩ := h
              replace h32 : A'.tmps[32]?.getD undef = _ := h32
              refine ⟨_, W, ?_, Below.refl _ _, rfl⟩
              go_simp
            · refine vf_none rfl (f_run fun A' W hR h => ?_)
              obtain ⟨h33, _⟩ := h
              replace h33 : A'.tmps[33]?.getD undef = _ := h33
              have hc := Keeps.of_below hR _ _ hmk0
              refine ⟨_, W, ?_, Below.refl _ _, rfl⟩
              go_simp
            · refine vf_none rfl (f_run fun A' W hR h => ?_)
              obtain ⟨h34, _⟩ := h
              replace h34 : A'.tmps[34]?.getD undef = _ := h34
              refine ⟨_, W, ?_, Below.refl _ _, rfl⟩
              go_simp
            · refine vf_none rfl (f_run fun A' W hR h => ?_)
              obtain ⟨h30, h35, _⟩ := h
              replace h30 : A'.tmps[30]?.getD undef = _ := h30
              replace h35 : A'.tmps[35]?.getD undef = _ := h35
              refine ⟨_, W, ?_, Below.refl _ _, rfl⟩
              go_simp
              all_goals exact IntWalk.i64_in _ (by omega)
            · refine vf_none rfl (f_run fun A' W hR h => ?_)
              obtain ⟨h29, h36, _⟩ := h
              replace h29 : A'.tmps[29]?.getD undef = _ := h29
              replace h36 : A'.tmps[36]?.getD undef = _ := h36
              refine ⟨_, W, ?_, Below.refl _ _, rfl⟩
              go_simp
              all_goals omega
            · refine vf_none rfl (f_run fun A' W hR h => ?_)
              obtain ⟨h37, _⟩ := h
              replace h37 : A'.tmps[37]?.getD undef = _ := h37
              have hc := Keeps.of_below hR _ _ cm
              refine ⟨_, W, ?_, Below.refl _ _, rfl⟩
              go_simp
            · exact vf_none rfl (f_mov (.inr rfl) fun A W _ h => h.1)
          case fin =>
            intro A' W hd hs hR he hr
            obtain ⟨e0, e1, e2, e3, e4, e5, e6, e7, e8, e9, e10, e11, e12, e13, _⟩ := he
            have hA' := act_after [26, 27, 28, 29, 30, 31, 32, 33, 34, 35, 36, 37, 38, 9] rfl hd hs hr
            clear hd hs hr
            replace e0 : A'.tmps[26]?.getD undef = _ := e0
            replace e1 : A'.tmps[27]?.getD undef = _ := e1
            replace e2 : A'.tmps[28]?.getD undef = _ := e2
            replace e3 : A'.tmps[29]?.getD undef = _ := e3
            replace e4 : A'.tmps[30]?.getD undef = _ := e4
            replace e5 : A'.tmps[31]?.getD undef = _ := e5
            replace e6 : A'.tmps[32]?.getD undef = _ := e6
            replace e7 : A'.tmps[33]?.getD undef = _ := e7
            replace e8 : A'.tmps[34]?.getD undef = _ := e8
            replace e9 : A'.tmps[35]?.getD undef = _ := e9
            replace e10 : A'.tmps[36]?.getD undef = _ := e10
            replace e11 : A'.tmps[37]?.getD undef = _ := e11
            replace e12 : A'.tmps[38]?.getD undef = _ := e12
            replace e13 : A'.tmps[9]?.getD undef = _ := e13
            simp only [frameAfter, List.contains_cons, List.contains_nil, Nat.reduceBEq, Bool.or_false, Bool.or_true, Bool.or_self, Bool.false_or, Bool.true_or, Bool.false_eq_true, if_true, if_false, Nat.reduceAdd, e0, e1, e2, e3, e4, e5, e6, e7, e8, e9, e10, e11, e12, e13] at hA'
            subst hA'
            clear e0 e1 e2 e3 e4 e5 e6 e7 e8 e9 e10 e11 e12 e13
            have HGK : Hid (W.heap[g]? = some (.cells (flashCells { f1 with S := layS (!f1.dead) f1.mask tb off k f1.S } (some ⟨mb, mo, none⟩) n0 c0).toArray 43 (0, 0))) := by
              show W.heap[g]? = _
              rw [hR.block g (Array.getElem?_eq_some_iff.1 HGK.out).1]; exact HGK.out
            have cx := Keeps.of_below hR _ _ cx
            have cy := Keeps.of_below hR _ _ cy
            have hgr := grown_trans hgr (grown_below hR _)
            clear hR cm hmk0
            go_upto_region 10 with fail
            refine wp_region_fresh_tail 16 [Is (.slice (some ⟨g, 4 + off, none⟩) n cap), Is (.int .i64 (k : Int)), Is (.slice (some ⟨g, 4 + off, none⟩) n cap), Is (.int .i64 (k : Int)), Is (.pointer (some ⟨g, 4 + off + k, none⟩)), Is (.int .u8 (x.toNat : Int)), Is (.int .u8 (m.toNat : Int)), Is (.int .u8 (p.toNat : Int)), Is (.slice (some ⟨b, o, none⟩) m2 c2), Is (.int .i64 (k : Int)), Is (.pointer (some ⟨b, o + k, none⟩)), Is (.int .u8 (y.toNat : Int)), Is (.int .u8 (m.toNat : Int)), Is (.int .u8 (q.toNat : Int)), Is (.int .u8 (r.toNat : Int)), Is (.pointer (some ⟨g, 4 + off + k, none⟩))]
              [[(1, none)], [(8, none)], [(1, none)], [(8, none)], [(41, some 2), (42, some 3)], [(43, some 4)], [(9, none)], [(44, some 5), (45, some 6)], [(2, none)], [(8, none)], [(47, some 8), (48, some 9)], [(49, some 10)], [(9, none)], [(50, some 11), (51, some 12)], [(46, some 7), (52, some 13)], [(39, some 0), (40, some 1)]]
              (by kernel_rfl) (by kernel_rfl) (by kernel_rfl) (by kernel_rfl)
              ⟨mono_is _, mono_is _, mono_is _, mono_is _, mono_is _, mono_is _, mono_is _, mono_is _, mono_is _, mono_is _, mono_is _, mono_is _, mono_is _, mono_is _, mono_is _, mono_is _, trivial⟩ ?vc ?fin
            case vc =>
              refine ⟨?_, ?_, ?_, ?_, ?_, ?_, ?_, ?_, ?_, ?_, ?_, ?_, ?_, ?_, ?_, ?_, trivial⟩
              · exact vf_none rfl (f_mov (.inl rfl) fun A W _ h => h.1)
              · exact vf_none rfl (f_mov (.inl rfl) fun A W _ h => h.1)
              · exact vf_none rfl (f_mov (.inl rfl) fun A W _ h => h.1)
              · exact vf_none rfl (f_mov (.inl rfl) fun A W _ h => h.1)
              · refine vf_none rfl (f_run fun A' W hR h => ?_)
                obtain ⟨h41, h42, _⟩ := h
                replace h41 : A'.tmps[41]?.getD undef = _ := h41
                replace h42 : A'.tmps[42]?.getD undef = _ := h42
                refine ⟨_, W, ?_, Below.refl _ _, rfl⟩
                go_simp
                all_goals omega
              · refine vf_none rfl (f_run fun A' W hR h => ?_)
                obtain ⟨h43, _⟩ := h
                replace h43 : A'.tmps[43]?.getD undef = _ := h43
                have hc := Keeps.of_below hR _ _ cx
                refine ⟨_, W, ?_, Below.refl _ _, rfl⟩
                go_simp
              · exact vf_none rfl (f_mov (.inl rfl) fun A W _ h => h.1)
              · refine vf_none rfl (f_run fun A' W hR h => ?_)
                obtain ⟨h44, h45, _⟩ := h
                replace h44 : A'.tmps[44]?.getD undef = _ := h44
                replace h45 : A'.tmps[45]?.getD undef = _ := h45
                refine ⟨_, W, ?_, Below.refl _ _, rfl⟩
                go_simp
                all_goals exact hpe
              · exact vf_none rfl (f_mov (.inl rfl) fun A W _ h => h.1)
              · exact vf_none rfl (f_mov (.inl rfl) fun A W _ h => h.1)
              · refine vf_none rfl (f_run fun A' W hR h => ?_)
                obtain ⟨h47, h48, _⟩ := h
                replace h47 : A'.tmps[47]?.getD undef = _ := h47
                replace h48 : A'.tmps[48]?.getD undef = _ := h48
                refine ⟨_, W, ?_, Below.refl _ _, rfl⟩
                go_simp
                all_goals omega
              · refine vf_none rfl (f_run fun A' W hR h => ?_)
                obtain ⟨h49, _⟩ := h
                replace h49 : A'.tmps[49]?.getD undef = _ := h49
                have hc := Keeps.of_below hR _ _ cy
                refine ⟨_, W, ?_, Below.refl _ _, rfl⟩
                go_simp
              · exact vf_none rfl (f_mov (.inl rfl) fun A W _ h => h.1)
              · refine vf_none rfl (f_run fun A' W hR h => ?_)
                obtain ⟨h50, h51, _⟩ := h
                replace h50 : A'.tmps[50]?.getD undef = _ := h50
                replace h51 : A'.tmps[51]?.getD undef = _ := h51
                refine ⟨_, W, ?_, Below.refl _ _, rfl⟩
                go_simp
                all_goals exact hqe
              · refine vf_none rfl (f_run fun A' W hR h => ?_)
                obtain ⟨h46, h52, _⟩ := h
                replace h46 : A'.tmps[46]?.getD undef = _ := h46
                replace h52 : A'.tmps[52]?.getD undef = _ := h52
                refine ⟨_, W, ?_, Below.refl _ _, rfl⟩
                go_simp
                all_goals exact hre
              · refine vf_none rfl (f_run fun A' W hR h => ?_)
                obtain ⟨h39, h40, _⟩ := h
                replace h39 : A'.tmps[39]?.getD undef = _ := h39
                replace h40 : A'.tmps[40]?.getD undef = _ := h40
                refine ⟨_, W, ?_, Below.refl _ _, rfl⟩
                go_simp
                all_goals omega
            case fin =>
              intro A' W hd hs hR he hr
              obtain ⟨e0, e1, e2, e3, e4, e5, e6, e7, e8, e9, e10, e11, e12, e13, e14, e15, _⟩ := he
              have hA' := act_after [39, 40, 41, 42, 43, 44, 45, 46, 47, 48, 49, 50, 51, 52, 53, 54] rfl hd hs hr
              clear hd hs hr
              replace e0 : A'.tmps[39]?.getD undef = _ := e0
              replace e1 : A'.tmps[40]?.getD undef = _ := e1
              replace e2 : A'.tmps[41]?.getD undef = _ := e2
              replace e3 : A'.tmps[42]?.getD undef = _ := e3
              replace e4 : A'.tmps[43]?.getD undef = _ := e4
              replace e5 : A'.tmps[44]?.getD undef = _ := e5
              replace e6 : A'.tmps[45]?.getD undef = _ := e6
              replace e7 : A'.tmps[46]?.getD undef = _ := e7
              replace e8 : A'.tmps[47]?.getD undef = _ := e8
              replace e9 : A'.tmps[48]?.getD undef = _ := e9
              replace e10 : A'.tmps[49]?.getD undef = _ := e10
              replace e11 : A'.tmps[50]?.getD undef = _ := e11
              replace e12 : A'.tmps[51]?.getD undef = _ := e12
              replace e13 : A'.tmps[52]?.getD undef = _ := e13
              replace e14 : A'.tmps[53]?.getD undef = _ := e14
              replace e15 : A'.tmps[54]?.getD undef = _ := e15
              simp only [frameAfter, List.contains_cons, List.contains_nil, Nat.reduceBEq, Bool.or_false, Bool.or_true, Bool.or_self, Bool.false_or, Bool.true_or, Bool.false_eq_true, if_true, if_false, Nat.reduceAdd, e0, e1, e2, e3, e4, e5, e6, e7, e8, e9, e10, e11, e12, e13, e14, e15] at hA'
              subst hA'
              clear e0 e1 e2 e3 e4 e5 e6 e7 e8 e9 e10 e11 e12 e13 e14 e15
              have hg' : W.heap[g]? = some (.cells (flashCells { f1 with S := layS (!f1.dead) f1.mask tb off k f1.S } (some ⟨mb, mo, none⟩) n0 c0).toArray 43 (0, 0)) := by rw [hR.block g (Array.getElem?_eq_some_iff.1 HGK.out).1]; exact HGK.out
              have fx : W.frozen? ⟨g, 4 + off + k, none⟩ = false := free_of_block hg'
              have cxw := Keeps.of_below hR _ _ cx
              have hg2 := block_setCell (i := 4 + off + k) (.int .u8 (r.toNat : Int)) hg'
              rw [fl_setByte2] at hg2
              have hS' : (layS (!f1.dead) f1.mask tb off k f1.S).set (off + k) r = layS (!f1.dead) f1.mask tb off (k + 1) f1.S := by
                rw [hrv.out, hxv.out, hyv.out, hmv.out]; rfl
              dsimp only at hg2
              rw [hS'] at hg2
              have hgr' := grown_trans (grown_trans hgr (grown_below hR _)) (grown_set W g (4 + off + k) (.int .u8 (r.toNat : Int)))
              have HG2 := Lib.hid hg2
              clear hg' hg2 hS'
              go_wp2_with fail
              go_roundw
              case rel => exact ⟨k + 1, by omega, by go_num, HG2.out, hgr'⟩
              case measure => simp [intOf]; omega
        · obtain rfl : n = k := by omega
          rw [hd] at hgk
          have hend := hfin wr hgk hgr
          clear hgk hfin
          go_wp2_with fail
          all_goals
            go_ret
            exact ⟨rfl, hend.1, hend.2⟩
end Go.Proofs.Ytcpifcdndhhmgaa
