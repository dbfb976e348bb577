/- The flash memory's exported functions that write its sectors. -/
import Derived.Test.YtcpifcdndhhmgaaCrcSum
set_option linter.unusedVariables false
set_option linter.unusedSimpArgs false
namespace Go.Proofs.Ytcpifcdndhhmgaa
open Go.RowKit

/-- a row of bytes of its own, laid behind B0 -/
def FreshIs (B0 n : Nat) (l : List UInt8) : World → Value → Prop := fun W v => ∃ b, v = .slice (some ⟨b, 0, none⟩) n n ∧ B0 ≤ b ∧ Bs W (some ⟨b, 0, none⟩) n l
theorem mono_freshIs (B0 n : Nat) (l : List UInt8) : MonoP (FreshIs B0 n l) := fun _ _ _ hb ⟨b, e, h1, h2⟩ => ⟨b, e, h1, h2.keep (.of_below hb)⟩
theorem fresh_bs {W : World} {b n : Nat} {l : List UInt8} {t : TypeId} {fr : Nat × Nat} (h : W.heap[b]? = some (.cells (bv l).toArray t fr)) (hl : l.length = n) : Bs W (some ⟨b, 0, none⟩) n l := by
  have := Vs.lit (n := n) h (by simp [bv, hl])
  simpa [Bs] using this

set_option maxRecDepth 100000 in
set_option maxHeartbeats 1000000 in
theorem erase_any (Q : Nat → Prop) (g : Nat) (hQ : ∀ b, Q b → b ≠ g) (f : FlashSt) (s : Int) (w : World) (h : FS Q w g f) :
    Calls Try.prog 39 #[.pointer (some ⟨g, 0, none⟩), .int .i64 s] w fun r w' => r = .returned (.int .i64 (eraseF f s).1) ∧ FS Q w' g (eraseF f s).2 ∧ w.grownBy w' (some g) := by
  have h0 := h
  have hglt := h.lt
  obtain ⟨A, n, c, hg, hS, hl0, hl1, hB, hn, hc, ha⟩ := h
  have c3 := fl_dead hg
  have c0 := fl_left hg
  clear hg
  cases hd : f.dead
  · rw [hd] at c3
    by_cases hs : s < 0 ∨ 6 ≤ s
    · have hi := is_any s w
      rw [decide_eq_true hs] at hi
      rw [show eraseF f s = (12, f) by unfold eraseF; rw [hd, if_neg (by simp), if_pos hs]]
      go_enter Try.func39, Try.ntmps39
      go_wp2_with (go_at_call 43; refine Calls.mono hi ?_; rintro r _ ⟨rfl, rfl⟩)
      go_ret
      exact ⟨rfl, h0, grown_refl _ _⟩
    · obtain ⟨k, rfl⟩ : ∃ k : Nat, s = k := ⟨s.toNat, by omega⟩
      have hk : k < 6 := by omega
      have hk1 : (k : Int) < 6 := by omega
      have hk0 : (0 : Int) ≤ k := by omega
      have hi := is_any (k : Int) w
      rw [decide_eq_false hs] at hi
      rw [show eraseF f (k : Int) = (if (spendF f).dead = true then 14 else 0, { spendF f with S := layS (!(spendF f).dead) f.mask (List.replicate 1024 255) (k * 1024) 1024 f.S }) by unfold eraseF; rw [hd, if_neg (by simp), if_neg hs]; rfl]
      have hrow := fun W => row_any 1024 (by omega) W
      have hbl : (List.replicate 1024 (255 : UInt8)).length = 1024 := List.length_replicate
      generalize List.replicate 1024 (255 : UInt8) = bk at hrow hbl ⊢
      have hlay := fun gt W h1 h2 h3 => lay_any Q g hQ f (k * 1024) 1024 1024 (some ⟨gt, 0, none⟩) 1024 1024 bk W h1 (by omega) h2 h3 (by omega) (by omega) (by omega) (by omega) (by omega)
      generalize (if (spendF f).dead = true then (14 : Int) else 0) = E at hlay ⊢
      generalize ({ spendF f with S := layS (!(spendF f).dead) f.mask bk (k * 1024) 1024 f.S } : FlashSt) = F2 at hlay ⊢
      go_enter Try.func39, Try.ntmps39
      go_upto_region 5 with (go_at_call 43; refine Calls.mono hi ?_; rintro r _ ⟨rfl, rfl⟩)
      refine wp_region_fresh_tail 10 [Is (.pointer (some ⟨g, 0, none⟩)), Is (.pointer (some ⟨g, 0, none⟩)), Is (.pointer (some ⟨g, 0, none⟩)), Is (.pointer (some ⟨g, 0, none⟩)), Is (.int .i64 (k : Int)), Is (.pointer (some ⟨g, 0, none⟩)), Is (.pointer (some ⟨g, 4, none⟩)), Is (.pointer (some ⟨g, 4 + k * 1024, none⟩)), Is (.slice (some ⟨g, 4 + k * 1024, none⟩) 1024 1024), FreshIs w.heap.size 1024 bk]
        [[(0, none)], [(15, some 0)], [(16, some 1)], [(0, none)], [(1, none)], [(18, some 3)], [(20, some 5)], [(21, some 6), (19, some 4)], [(22, some 7)], []]
        (by kernel_rfl) (by kernel_rfl) (by kernel_rfl) (by kernel_rfl)
        ⟨mono_is _, mono_is _, mono_is _, mono_is _, mono_is _, mono_is _, mono_is _, mono_is _, mono_is _, mono_freshIs _ _ _, trivial⟩ ?vc ?fin
      case vc =>
        refine ⟨?_, ?_, ?_, ?_, ?_, ?_, ?_, ?_, ?_, ?_, trivial⟩
        · exact vf_none rfl (f_mov (.inl rfl) fun A W _ h => h.1)
        · refine vf_none rfl (f_run fun A' W hR h => ?_)
          obtain ⟨h15, _⟩ := h
          replace h15 : A'.tmps[15]?.getD undef = _ := h15
          refine ⟨_, W, ?_, Below.refl _ _, rfl⟩
          go_simp
        · refine vf_none rfl (f_run fun A' W hR h => ?_)
          obtain ⟨h16, _⟩ := h
          replace h16 : A'.tmps[16]?.getD undef = _ := h16
          refine ⟨_, W, ?_, Below.refl _ _, rfl⟩
          go_simp
        · exact vf_none rfl (f_mov (.inl rfl) fun A W _ h => h.1)
        · exact vf_none rfl (f_mov (.inl rfl) fun A W _ h => h.1)
        · refine vf_none rfl (f_run fun A' W hR h => ?_)
          obtain ⟨h18, _⟩ := h
          replace h18 : A'.tmps[18]?.getD undef = _ := h18
          refine ⟨_, W, ?_, Below.refl _ _, rfl⟩
          go_simp
        · refine vf_none rfl (f_run fun A' W hR h => ?_)
          obtain ⟨h20, _⟩ := h
          replace h20 : A'.tmps[20]?.getD undef = _ := h20
          refine ⟨_, W, ?_, Below.refl _ _, rfl⟩
          go_simp
        · refine vf_none rfl (f_run fun A' W hR h => ?_)
          obtain ⟨h21, h19, _⟩ := h
          replace h21 : A'.tmps[21]?.getD undef = _ := h21
          replace h19 : A'.tmps[19]?.getD undef = _ := h19
          refine ⟨_, W, ?_, Below.refl _ _, rfl⟩
          go_simp
          all_goals omega
        · refine vf_none rfl (f_run fun A' W hR h => ?_)
          obtain ⟨h22, _⟩ := h
          replace h22 : A'.tmps[22]?.getD undef = _ := h22
          refine ⟨_, W, ?_, Below.refl _ _, rfl⟩
          go_simp
        · refine vf_none rfl (f_call rfl Try.func36 rfl (by kernel_rfl) fun A' W hR h => ?_)
          obtain ⟨_⟩ := h
          show Calls _ _ #[_] _ _
          refine Calls.mono (hrow W) ?_
          rintro r W' ⟨rfl, hh, hb, hlt⟩
          exact ⟨_, rfl, hb, _, rfl, hR.size, fresh_bs hh hbl⟩
      case fin =>
        intro A' W hd hs hR he hr
        obtain ⟨e0, e1, e2, e3, e4, e5, e6, e7, e8, e9, _⟩ := he
        have hA' := act_after [15, 16, 17, 18, 19, 20, 21, 22, 23, 24] rfl hd hs hr
        clear hd hs hr
        obtain ⟨gt, e9, hgt, hBt⟩ := e9
        replace e9 : A'.tmps[24]?.getD undef = _ := e9
        replace e0 : A'.tmps[15]?.getD undef = _ := e0
        replace e1 : A'.tmps[16]?.getD undef = _ := e1
        replace e2 : A'.tmps[17]?.getD undef = _ := e2
        replace e3 : A'.tmps[18]?.getD undef = _ := e3
        replace e4 : A'.tmps[19]?.getD undef = _ := e4
        replace e5 : A'.tmps[20]?.getD undef = _ := e5
        replace e6 : A'.tmps[21]?.getD undef = _ := e6
        replace e7 : A'.tmps[22]?.getD undef = _ := e7
        replace e8 : A'.tmps[23]?.getD undef = _ := e8
        simp only [frameAfter, List.contains_cons, List.contains_nil, Nat.reduceBEq, Bool.or_false, Bool.or_true, Bool.or_self, Bool.false_or, Bool.true_or, Bool.false_eq_true, if_true, if_false, Nat.reduceAdd, e0, e1, e2, e3, e4, e5, e6, e7, e8, e9] at hA'
        subst hA'
        clear e0 e1 e2 e3 e4 e5 e6 e7 e8 e9
        go_wp2_with (go_at_call 61; refine Calls.mono (hlay gt W (h0.below hR) hBt (fun _ a e => by injection e with e; subst e; exact Nat.ne_of_gt (Nat.lt_of_lt_of_le hglt hgt))) ?_; rintro r w3 ⟨rfl, hf3, hg3⟩)
        go_ret
        exact ⟨rfl, hf3, grown_trans (grown_below hR _) hg3⟩
  · rw [hd] at c3
    rw [show eraseF f s = (14, f) by unfold eraseF; rw [hd, if_pos rfl]]
    go_enter Try.func39, Try.ntmps39
    go_wp2_with fail
    go_ret
    exact ⟨rfl, h0, grown_refl _ _⟩

theorem splice_flash (f : FlashSt) (A : Option Addr) (n c off : Nat) (l : List UInt8) : splice (flashCells f A n c) (4 + off) (bv l) = flashCells { f with S := f.S.take off ++ l ++ f.S.drop (off + l.length) } A n c := by
  have h1 : ∀ (a b c' d : Value) (L : List Value) (o : Nat), (a :: b :: c' :: d :: L).take (4 + o) = a :: b :: c' :: d :: L.take o := fun a b c' d L o => by rw [Nat.add_comm 4 o]; rfl
  have h2 : ∀ (a b c' d : Value) (L : List Value) (o : Nat), (a :: b :: c' :: d :: L).drop (4 + o) = L.drop o := fun a b c' d L o => by rw [Nat.add_comm 4 o]; rfl
  unfold splice flashCells
  rw [h1, Nat.add_assoc 4 off, h2, length_bv, bv_append, bv_append, bv_take, bv_drop]
  simp
/-- the first k sectors blank, the others not yet -/
def blankTo (k : Nat) : List UInt8 := List.replicate (k * 1024) 255 ++ List.replicate (6144 - k * 1024) 0
theorem length_blankTo (k : Nat) (hk : k ≤ 6) : (blankTo k).length = 6144 := by unfold blankTo; rw [List.length_append, List.length_replicate, List.length_replicate]; omega
theorem blankTo_next (k : Nat) (hk : k < 6) : (blankTo k).take (k * 1024) ++ List.replicate 1024 255 ++ (blankTo k).drop (k * 1024 + 1024) = blankTo (k + 1) := by
  unfold blankTo
  rw [List.take_left' List.length_replicate, ← List.drop_drop, List.drop_left' List.length_replicate, List.drop_replicate, List.replicate_append_replicate, show k * 1024 + 1024 = (k + 1) * 1024 by omega, show 6144 - k * 1024 - 1024 = 6144 - (k + 1) * 1024 by omega]

set_option maxRecDepth 100000 in
set_option maxHeartbeats 1000000 in
theorem new_any (w : World) : Calls Try.prog 10 #[] w fun r w' => r = .returned (.pointer (some ⟨w.heap.size, 0, none⟩)) ∧ FS (fun _ => False) w' w.heap.size newF ∧ Below w.heap.size w w' := by
  have hbuild := run_zeroFlash
  have hrow := fun W => row_any 1024 (by omega) W
  have hbl : (List.replicate 1024 (255 : UInt8)).length = 1024 := List.length_replicate
  have hnext := blankTo_next
  generalize List.replicate 1024 (255 : UInt8) = bk at hrow hbl hnext
  have hN := Lib.hid hnext
  clear hnext
  have h0 : List.replicate 6144 (0 : UInt8) = blankTo 0 := by unfold blankTo; rw [Nat.zero_mul, List.replicate_zero, List.nil_append]
  rw [h0] at hbuild
  have hfin : newF = ⟨0, 0, [], false, blankTo 6⟩ := by
    unfold newF blankTo
    rw [show 6144 - 6 * 1024 = 0 by omega, List.replicate_zero, List.append_nil, show 6 * 1024 = 6144 by omega]
  rw [hfin]
  clear hfin h0
  go_enter Try.func10, Try.ntmps10
  go_wp2_with fail
  go_loopw [5] (fun i wr => ∃ (k : Nat), k ≤ 6 ∧ i = .int .i64 k ∧ wr.heap[w.heap.size]? = some (.cells (flashCells ⟨0, 0, [], false, blankTo k⟩ none 0 0).toArray 43 (0, 0)) ∧ Below w.heap.size w wr) (fun i _ => 6 - (intOf i).toNat)
  case atStart => exact ⟨0, by omega, rfl, heap_alloc_new w _, (Below.refl _ w).alloc (Nat.le_refl _) _⟩
  case round =>
    clear hbuild
    obtain ⟨k, hk, rfl, hg, hbr⟩ := hrel
    by_cases hlt : k < 6
    · have hk1 : (k : Int) < 6 := by omega
      have hk0 : (0 : Int) ≤ k := by omega
      have HN := Lib.hid (hN.out k hlt)
      have HK := Lib.hid (length_blankTo k hk)
      generalize blankTo k = Sk at hg HN HK
      have c0 := fl_left hg
      go_upto_region 5 with fail
      refine wp_region_fresh_tail 7 [Is (.pointer (some ⟨w.heap.size, 0, none⟩)), Is (.int .i64 (k : Int)), Is (.pointer (some ⟨w.heap.size, 0, none⟩)), Is (.pointer (some ⟨w.heap.size, 4, none⟩)), Is (.pointer (some ⟨w.heap.size, 4 + k * 1024, none⟩)), Is (.slice (some ⟨w.heap.size, 4 + k * 1024, none⟩) 1024 1024), FreshIs wr.heap.size 1024 bk]
        [[(1, none)], [(2, none)], [(8, some 0)], [(10, some 2)], [(11, some 3), (9, some 1)], [(12, some 4)], []]
        (by kernel_rfl) (by kernel_rfl) (by kernel_rfl) (by kernel_rfl)
        ⟨mono_is _, mono_is _, mono_is _, mono_is _, mono_is _, mono_is _, mono_freshIs _ _ _, trivial⟩ ?vc ?fin
      case vc =>
        refine ⟨?_, ?_, ?_, ?_, ?_, ?_, ?_, trivial⟩
        · exact vf_none rfl (f_mov (.inl rfl) fun A W _ h => h.1)
        · exact vf_none rfl (f_mov (.inl rfl) fun A W _ h => h.1)
        · refine vf_none rfl (f_run fun A' W hR h => ?_)
          obtain ⟨h8, _⟩ := h
          replace h8 : A'.tmps[8]?.getD undef = _ := h8
          refine ⟨_, W, ?_, Below.refl _ _, rfl⟩
          go_simp
        · refine vf_none rfl (f_run fun A' W hR h => ?_)
          obtain ⟨h10, _⟩ := h
          replace h10 : A'.tmps[10]?.getD undef = _ := h10
          refine ⟨_, W, ?_, Below.refl _ _, rfl⟩
          go_simp
        · refine vf_none rfl (f_run fun A' W hR h => ?_)
          obtain ⟨h11, h9, _⟩ := h
          replace h11 : A'.tmps[11]?.getD undef = _ := h11
          replace h9 : A'.tmps[9]?.getD undef = _ := h9
          refine ⟨_, W, ?_, Below.refl _ _, rfl⟩
          go_simp
          all_goals omega
        · refine vf_none rfl (f_run fun A' W hR h => ?_)
          obtain ⟨h12, _⟩ := h
          replace h12 : A'.tmps[12]?.getD undef = _ := h12
          refine ⟨_, W, ?_, Below.refl _ _, rfl⟩
          go_simp
        · refine vf_none rfl (f_call rfl Try.func36 rfl (by kernel_rfl) fun A' W hR h => ?_)
          obtain ⟨_⟩ := h
          show Calls _ _ #[_] _ _
          refine Calls.mono (hrow W) ?_
          rintro r W' ⟨rfl, hh, hb, hlt⟩
          exact ⟨_, rfl, hb, _, rfl, hR.size, fresh_bs hh hbl⟩
      case fin =>
        intro A' W hd hs hR he hr
        obtain ⟨e0, e1, e2, e3, e4, e5, e6, _⟩ := he
        have hA' := act_after [8, 9, 10, 11, 12, 13, 14] rfl hd hs hr
        clear hd hs hr
        obtain ⟨gt, e6, hgt, hBt⟩ := e6
        replace e6 : A'.tmps[14]?.getD undef = _ := e6
        replace e0 : A'.tmps[8]?.getD undef = _ := e0
        replace e1 : A'.tmps[9]?.getD undef = _ := e1
        replace e2 : A'.tmps[10]?.getD undef = _ := e2
        replace e3 : A'.tmps[11]?.getD undef = _ := e3
        replace e4 : A'.tmps[12]?.getD undef = _ := e4
        replace e5 : A'.tmps[13]?.getD undef = _ := e5
        simp only [frameAfter, List.contains_cons, List.contains_nil, Nat.reduceBEq, Bool.or_false, Bool.or_true, Bool.or_self, Bool.false_or, Bool.true_or, Bool.false_eq_true, if_true, if_false, Nat.reduceAdd, e0, e1, e2, e3, e4, e5, e6] at hA'
        subst hA'
        clear e0 e1 e2 e3 e4 e5 e6
        have hgW : W.heap[w.heap.size]? = some (.cells (flashCells ⟨0, 0, [], false, Sk⟩ none 0 0).toArray 43 (0, 0)) := by rw [hR.block _ (Array.getElem?_eq_some_iff.1 hg).1]; exact hg
        have hSkl : (flashCells ⟨0, 0, [], false, Sk⟩ none 0 0).length = 6148 := by
          show (bv Sk).length + 1 + 1 + 1 + 1 = 6148
          rw [length_bv, HK.out]
        have hsp := splice_flash ⟨0, 0, [], false, Sk⟩ none 0 0 (k * 1024) bk
        dsimp only at hsp
        rw [hbl, HN.out] at hsp
        have HSP := Lib.hid hsp
        clear hsp
        have htk : bk.take (min 1024 1024) = bk := by rw [Nat.min_self]; exact List.take_of_length_le (by rw [hbl]; exact Nat.le_refl _)
        have HTK := Lib.hid htk
        clear htk
        simp only [List.drop_succ_cons, List.drop_zero]
        refine copyB rfl (.tmp 13) (.tmp 14) rfl w.heap.size (4 + k * 1024) 1024 1024 (some ⟨gt, 0, none⟩) 1024 1024 bk rfl rfl hBt _ _ hgW (by rw [hSkl]; omega) w.heap.size w (hbr.trans (hR.mono hbr.size)) (Nat.le_refl _) ?_
        intro w3 hw3 hb3
        rw [HTK.out, HSP.out] at hw3
        go_wp2_with fail
        go_roundw
        case rel => exact ⟨k + 1, by omega, by go_num, hw3.out, hb3⟩
        case measure => simp [intOf]; omega
    · obtain rfl : k = 6 := by omega
      have HG := Lib.hid hg
      clear hg
      go_wp2_with fail
      go_ret
      exact ⟨rfl, ⟨none, 0, 0, HG.out, length_blankTo 6 (Nat.le_refl _), Int.le_refl _, by show (0 : Int) ≤ _; omega, Bs.nil _ _, Nat.le_refl _, by omega, inQ_none _⟩, hbr⟩

theorem page_slice (g o q : Nat) (hq : q + 16 ≤ 1024) (W : World) : (Instr.sliceAt 40 (.pointer (some ⟨g, o, none⟩)) (some (.int .i64 ((q : Nat) : Int))) (some (.int .i64 ((q + 16 : Nat) : Int))) none).run Try.prog W = .ok (.slice (some ⟨g, o + q, none⟩) 16 (1024 - q)) W := by
  have hal : Try.prog.arrayLen 40 = 1024 := by kernel_rfl
  have hel : Try.prog.elem 40 = 5 := by kernel_rfl
  have h := run_sliceAt_array_lh (P := Try.prog) W 40 ⟨g, o, none⟩ (by rw [hal, hel]; exact Try.underlying40) .i64 .i64 ((q : Nat) : Int) ((q + 16 : Nat) : Int) (by omega) (by omega) (by rw [hal]; omega)
  rw [h, hel, hal]
  have hs : (sizeOf 5).run Try.prog W = .ok 1 W := Try.sizeOf5 W
  rw [hs]
  rw [Result.andThen_ok]
  unfold slicedAt
  rw [Int.toNat_natCast, Int.toNat_natCast, if_neg (show ¬ 1024 = q by omega), Nat.mul_one, Addr.add_lit, Nat.add_sub_cancel_left]
theorem pad_splice (b : List UInt8) (n : Nat) (hb : b.length = n) (hn : n ≤ 16) : splice (bv (List.replicate 16 (255 : UInt8))) 0 (bv (b.take (min n 16))) = bv (pad b) := by
  have h1 : b.take (min n 16) = b := List.take_of_length_le (by omega)
  rw [h1]
  unfold splice pad
  rw [List.take_zero, List.nil_append, Nat.zero_add, length_bv, bv_append, ← bv_drop, List.drop_replicate]

set_option maxRecDepth 100000 in
set_option maxHeartbeats 2000000 in
theorem program_any (Q : Nat → Prop) (g : Nat) (hQ : ∀ b, Q b → b ≠ g) (f : FlashSt) (s p : Int) (A : Option Addr) (n c : Nat) (b : List UInt8) (w : World) (h : FS Q w g f) (hA : Bs w A n b) (hn : n ≤ c) (hc9 : c ≤ 9223372036854775807) :
    Calls Try.prog 60 #[.pointer (some ⟨g, 0, none⟩), .int .i64 s, .int .i64 p, .slice A n c] w fun r w' => r = .returned (.int .i64 (progF f s p b).1) ∧ FS Q w' g (progF f s p b).2 ∧ w.grownBy w' (some g) := by
  have h0 := h
  have hglt := h.lt
  obtain ⟨A0, n0, c0, hg, hS, hl0, hl1, hB, hn0, hc0, ha⟩ := h
  have c3 := fl_dead hg
  have cl0 := fl_left hg
  have HG := Lib.hid hg
  clear hg
  have hbl := hA.len
  cases hd : f.dead
  · rw [hd] at c3
    by_cases hs : s < 0 ∨ 6 ≤ s ∨ p < 0 ∨ 64 ≤ p
    · rw [show progF f s p b = (12, f) by unfold progF; rw [hd, if_neg (by simp), if_pos hs]]
      by_cases hs1 : s < 0 ∨ 6 ≤ s
      · have hi := is_any s w
        rw [decide_eq_true hs1] at hi
        go_enter Try.func60, Try.ntmps60
        go_wp2_with (go_at_call 43; refine Calls.mono hi ?_; rintro r _ ⟨rfl, rfl⟩)
        go_ret
        exact ⟨rfl, h0, grown_refl _ _⟩
      · have hi := is_any s w
        rw [decide_eq_false hs1] at hi
        by_cases hp0 : p < 0
        · go_enter Try.func60, Try.ntmps60
          go_wp2_with (go_at_call 43; refine Calls.mono hi ?_; rintro r _ ⟨rfl, rfl⟩)
          go_ret
          exact ⟨rfl, h0, grown_refl _ _⟩
        · have hp1 : ¬ (p < 64) := by omega
          go_enter Try.func60, Try.ntmps60
          go_wp2_with (go_at_call 43; refine Calls.mono hi ?_; rintro r _ ⟨rfl, rfl⟩)
          go_ret
          exact ⟨rfl, h0, grown_refl _ _⟩
    · have hi := is_any s w
      rw [decide_eq_false (show ¬ (s < 0 ∨ 6 ≤ s) by omega)] at hi
      obtain ⟨k, rfl⟩ : ∃ k : Nat, s = k := ⟨s.toNat, by omega⟩
      obtain ⟨q, rfl⟩ : ∃ q : Nat, p = q := ⟨p.toNat, by omega⟩
      have hk : k < 6 := by omega
      have hk1 : (k : Int) < 6 := by omega
      have hk0 : (0 : Int) ≤ k := by omega
      have hq : q < 64 := by omega
      have hq1 : (q : Int) < 64 := by omega
      have hq0 : (0 : Int) ≤ q := by omega
      by_cases h16 : 16 < n
      · rw [show progF f k q b = (5, f) by unfold progF; rw [hd, if_neg (by simp), if_neg hs, if_pos (by omega)]]
        have h16' : (16 : Int) < n := by omega
        go_enter Try.func60, Try.ntmps60
        go_wp2_with (go_at_call 43; refine Calls.mono hi ?_; rintro r _ ⟨rfl, rfl⟩)
        go_ret
        exact ⟨rfl, h0, grown_refl _ _⟩
      · have h16' : ¬ (16 : Int) < n := by omega
        have hprog : progF f k q b = if fits b (k * 1024 + q * 16) f.S 16 = false then (13, f) else (if (spendF f).dead = true then 14 else 0, { spendF f with S := layS (!(spendF f).dead) f.mask (pad b) (k * 1024 + q * 16) 16 f.S }) := by
          unfold progF; rw [hd, if_neg (by simp), if_neg hs, if_neg (by omega)]; rfl
        obtain ⟨R, F', hRF, hbad0, hgood0⟩ : ∃ (R : Int) (F' : FlashSt), progF f k q b = (R, F') ∧ (fits b (k * 1024 + q * 16) f.S 16 = false → R = 13 ∧ F' = f) ∧
            (fits b (k * 1024 + q * 16) f.S 16 = true → (if (spendF f).dead = true then (14 : Int) else 0) = R ∧ { spendF f with S := layS (!(spendF f).dead) f.mask (pad b) (k * 1024 + q * 16) 16 f.S } = F') := by
          cases hfit : fits b (k * 1024 + q * 16) f.S 16
          · rw [hfit, if_pos rfl] at hprog
            exact ⟨_, _, hprog, fun _ => ⟨rfl, rfl⟩, fun h => absurd h (by decide)⟩
          · rw [hfit, if_neg (by simp)] at hprog
            exact ⟨_, _, hprog, fun h => absurd h (by decide), fun _ => ⟨rfl, rfl⟩⟩
        have hbad := Lib.hid hbad0
        have hgood := Lib.hid hgood0
        clear hbad0 hgood0
        rw [hRF]
        clear hprog hRF
        have hrow := fun W => row_any 16 (by omega) W
        have hsp := pad_splice b n hbl (by omega)
        have hrl : (bv (List.replicate 16 (255 : UInt8))).length = 16 := by rw [length_bv]; exact List.length_replicate
        generalize List.replicate 16 (255 : UInt8) = bk at hrow hsp hrl
        have HSP := Lib.hid hsp
        have HRL := Lib.hid hrl
        have hpl := length_pad b (by omega)
        clear hsp hrl hbl
        go_enter Try.func60, Try.ntmps60
        go_upto_region 8 with (first
          | (go_at_call 43; refine Calls.mono hi ?_; rintro r _ ⟨rfl, rfl⟩)
          | (go_at_call 36; refine Calls.mono (hrow _) ?_; rintro r w1 ⟨rfl, hh1, hb1, hlt1⟩))
        have hA1 := hA.below hb1
        go_upto_region 9 with (refine copyB rfl (.tmp 36) (.tmp 37) rfl w.heap.size 0 16 16 A n c b rfl rfl hA1 _ _ hh1 (by rw [HRL.out]; omega) w.heap.size w hb1 (Nat.le_refl _) ?_; intro w2 hw2 hb2; rw [HSP.out] at hw2)
        have hT : Bs w2 (some ⟨w.heap.size, 0, none⟩) 16 (pad b) := fresh_bs hw2.out hpl
        have HM1 : Hid ((q : Int) * 16 = ((q * 16 : Nat) : Int)) := by show (q : Int) * 16 = ((q * 16 : Nat) : Int); omega
        have HM2 : Hid (((q : Int) + 1) * 16 = ((q * 16 + 16 : Nat) : Int)) := by show ((q : Int) + 1) * 16 = ((q * 16 + 16 : Nat) : Int); omega
        have HQ : Hid (q * 16 + 16 ≤ 1024) := by show q * 16 + 16 ≤ 1024; omega
        go_upto_region 10 with fail
        rw [HM1.out, HM2.out]
        have hq16 := HQ.out
        obtain ⟨q2, hq2⟩ : ∃ q2, q * 16 = q2 := ⟨_, rfl⟩
        rw [hq2] at hq16 ⊢
        have HQ2 := Lib.hid hq2
        clear hq2
        have hsl := fun W => page_slice g (4 + k * 1024) q2 hq16 W
        rw [hsl, Result.andThen_ok, Oper.upon_value]
        go_upto_region 10 with fail
        have HG2 : Hid (w2.heap[g]? = some (.cells (flashCells f A0 n0 c0).toArray 43 (0, 0))) := by
          show w2.heap[g]? = _
          rw [hb2.block g hglt]; exact HG.out
        have hoff : k * 1024 + q2 + 16 ≤ 6144 := by omega
        rw [HQ2.out] at hbad hgood
        clear hsl hrow hi hA1 hh1
        go_wp2_with fail
        go_loop [52] (fun i => ∃ (j : Nat), j ≤ 16 ∧ i = .int .i64 j ∧ Hid (fits b (k * 1024 + q2) f.S j = true)) (fun i => 16 - (intOf i).toNat)
        case atStart => exact ⟨0, by omega, rfl, rfl⟩
        case round =>
          obtain ⟨j, hj, rfl, hfit⟩ := hrel
          by_cases hlt : j < 16
          · have hj1 : (j : Int) < 16 := by omega
            have hj0 : (0 : Int) ≤ j := by omega
            have hjc : (j : Int) < (1024 - q2 : Nat) := by omega
            obtain ⟨_, _, x, hTe, cx, _, hx⟩ := hT.next (k := j) hlt
            injection hTe with hTe
            injection hTe with e1 e2
            subst e1; subst e2
            rw [Nat.zero_add] at cx
            have cy := fl_byte (i := k * 1024 + q2 + j) HG2.out (by rw [hS]; omega)
            rw [← Nat.add_assoc, ← Nat.add_assoc] at cy
            have hfj : fits b (k * 1024 + q2) f.S (j + 1) = ((x &&& ~~~(f.S.getD (k * 1024 + q2 + j) 0)) == 0) := by
              have : (pad b).getD j 0 = x := by rw [List.getD_eq_getElem?_getD, hx.out]; rfl
              unfold fits
              rw [hfit.out, this, Bool.true_and]
            generalize f.S.getD (k * 1024 + q2 + j) 0 = y at cy hfj
            obtain ⟨z, hz, hzv⟩ : ∃ z : UInt8, bits .andNot .u8 (x.toNat : Int) (y.toNat : Int) = (z.toNat : Int) ∧ Hid (z = x &&& ~~~y) := ⟨_, u8n_andNot x y, rfl⟩
            rw [← hzv.out] at hfj
            by_cases hz0 : z = 0
            · subst hz0
              have HF := Lib.hid hfj
              clear hfj
              go_wp2_with fail
              go_round
              case rel => exact ⟨j + 1, by omega, by go_num, HF.out⟩
              case measure => simp [intOf]; omega
            · have hzn : ((z.toNat : Int) != 0) = true := by rw [u8_zero, beq_eq_false_iff_ne.2 hz0]; rfl
              have hff : fits b (k * 1024 + q2) f.S 16 = false := fits_mono b _ _ (k := j + 1) (by omega) (by rw [hfj]; exact beq_eq_false_iff_ne.2 hz0)
              have HFF := Lib.hid hff
              clear hff hfj
              obtain ⟨rfl, rfl⟩ := hbad.out HFF.out
              go_wp2_with fail
              go_ret
              exact ⟨rfl, h0.below hb2, grown_below hb2 _⟩
          · obtain rfl : j = 16 := by omega
            obtain ⟨g1, g2⟩ := hgood.out hfit.out
            have hlay := lay_any Q g hQ f (k * 1024 + q2) 16 (1024 - q2) (some ⟨w.heap.size, 0, none⟩) 16 16 (pad b) w2 (h0.below hb2) (by omega) hT (fun _ a e => by injection e with e; subst e; exact Nat.ne_of_gt hglt) (by omega) (by omega) (by omega) (by omega) (by omega)
            rw [g1, g2, ← Nat.add_assoc] at hlay
            clear g1 g2 hbad hgood
            go_wp2_with (go_at_call 61; refine Calls.mono hlay ?_; rintro r w3 ⟨rfl, hf3, hg3⟩)
            go_ret
            exact ⟨rfl, hf3, grown_trans (grown_below hb2 _) hg3⟩
  · rw [hd] at c3
    rw [show progF f s p b = (14, f) by unfold progF; rw [hd, if_pos rfl]]
    go_enter Try.func60, Try.ntmps60
    go_wp2_with fail
    go_ret
    exact ⟨rfl, h0, grown_refl _ _⟩
end Go.Proofs.Ytcpifcdndhhmgaa
