/- The code's Parse of a checkpoint. -/
import Derived.Test.YtcpifcdndhhmgaaRetRd
import Derived.Test.YtcpifcdndhhmgaaRetSmall
set_option linter.unusedVariables false
set_option linter.unusedSimpArgs false
namespace Go.Proofs.Ytcpifcdndhhmgaa
open Go.RowKit
attribute [local go_sem] ev_tmp ev_const ev_func ev_global lk_hit lk_miss uponK_value uponK_skip look_tmp look_const look_global look_func valP_value
set_option maxRecDepth 100000 in
set_option maxHeartbeats 8000000 in
theorem parseK_any (A : Option Addr) (N c : Nat) (b : List UInt8) (w : World) (hA : Bs w A N b) (hN : N ≤ 1099511627776) : Calls Try.prog 56 #[.slice A N c] w (ParseKP b w) := by
  refine calls_kw Try.func56 rfl Try.ntmps56 rfl [(0, .slice A N c)] rfl ?_
  repeat (first | refine kw_seq ?_ | refine kw_region ?_ | refine kl_nil ?_ | refine kq_then ?_ | (first | refine kl_move rfl rfl (.inl rfl) rfl rfl ?_ | refine kl_move rfl rfl (.inr rfl) rfl rfl ?_ | refine kl_const rfl rfl (.inl rfl) rfl ?_ | refine kl_const rfl rfl (.inr rfl) rfl ?_))
  refine kl_call rfl rfl rfl Try.func80 rfl (by kernel_rfl) rfl ?_
  refine Calls.mono (rdNew A N c b (Lay.start w) hA (by omega)) ?_
  rintro e w1 ⟨g, rfl, hg, hR⟩
  refine ⟨_, rfl, ?_⟩
  have HG := Lib.hid hg
  have HP0 : Hid (parseK b = numK (tkN (taken b 0 8)) (taken b 0 8).2.1 (taken b 0 8).2.2) := rfl
  clear hg
  repeat (first | refine kw_seq ?_ | refine kw_region ?_ | refine kl_nil ?_ | refine kq_then ?_ | (first | refine kl_move rfl rfl (.inl rfl) rfl rfl ?_ | refine kl_move rfl rfl (.inr rfl) rfl rfl ?_ | refine kl_const rfl rfl (.inl rfl) rfl ?_ | refine kl_const rfl rfl (.inr rfl) rfl ?_) | ((first | refine kl_step rfl rfl rfl fun K hK => ?_ | refine kl_step0 rfl rfl rfl fun K hK => ?_); go_simp; (try go_bits); (first | refine hK _ _ ?_ | refine hK _ ?_); clear hK K))
  refine kl_callp rfl rfl rfl (by exact rfl) Try.func81 rfl (by kernel_rfl) rfl ?_
  refine Calls.mono (rdInt hR) ?_
  rintro e w2 ⟨rfl, hR2⟩
  refine ⟨_, rfl, ?_⟩
  have hi := tkN_i64 (taken b 0 8)
  obtain ⟨seq, hseq⟩ : ∃ seq, tkN (taken b 0 8) = seq := ⟨_, rfl⟩
  obtain ⟨l1, e1, hle⟩ : ∃ l1 e1, (taken b 0 8).2 = (l1, e1) := ⟨_, _, rfl⟩
  rw [hle] at hR2
  rw [hseq, hle] at HP0
  rw [hseq] at hi ⊢
  have HSI := Lib.hid hi
  dsimp only at hR2 HP0
  clear hR hseq hle hi
  repeat (first | refine kw_seq ?_ | refine kw_region ?_ | refine kl_nil ?_ | refine kq_then ?_ | (first | refine kl_move rfl rfl (.inl rfl) rfl rfl ?_ | refine kl_move rfl rfl (.inr rfl) rfl rfl ?_ | refine kl_const rfl rfl (.inl rfl) rfl ?_ | refine kl_const rfl rfl (.inr rfl) rfl ?_) | ((first | refine kl_step rfl rfl rfl fun K hK => ?_ | refine kl_step0 rfl rfl rfl fun K hK => ?_); go_simp; (try go_bits); (first | refine hK _ _ ?_ | refine hK _ ?_); clear hK K))
  refine kl_call rfl rfl rfl Try.func82 rfl (by kernel_rfl) rfl ?_
  refine Calls.mono (rdByte hR2) ?_
  rintro e w3 ⟨rfl, hR3⟩
  refine ⟨_, rfl, ?_⟩
  have HP1 : Hid (parseK b = bodyK seq ((taken l1 e1 1).1.headD 0).toNat (taken l1 e1 1).2.1 (taken l1 e1 1).2.2) := HP0
  obtain ⟨u, hu⟩ : ∃ u, (taken l1 e1 1).1.headD 0 = u := ⟨_, rfl⟩
  obtain ⟨l2, e2, hle⟩ : ∃ l2 e2, (taken l1 e1 1).2 = (l2, e2) := ⟨_, _, rfl⟩
  rw [hle] at hR3
  rw [hu, hle] at HP1
  rw [hu]
  dsimp only at hR3 HP1
  have hub := byte_lt u
  obtain ⟨n, hn⟩ : ∃ n, u.toNat = n := ⟨_, rfl⟩
  rw [hn] at hub HP1 ⊢
  clear HP0 hR2 hu hle hn
  repeat (first | (first | refine kl_move rfl rfl (.inl rfl) rfl rfl ?_ | refine kl_move rfl rfl (.inr rfl) rfl rfl ?_ | refine kl_const rfl rfl (.inl rfl) rfl ?_ | refine kl_const rfl rfl (.inr rfl) rfl ?_) | refine kl_nil ?_)
  refine kq_then ?_
  refine kw_seq ?_
  have n0 : (0 : Int) ≤ n := by omega
  have n1 : (n : Int) ≤ 255 := by omega
  refine kw_cutq (fun L W => ∃ m l e, m ≤ 24 ∧ Hid (parseK b = finK seq (kepN m ([], l, e)).1 (ended (kepN m ([], l, e)).2.1 (kepN m ([], l, e)).2.2)) ∧ Hid (Rd true w W [] g l e) ∧ L = [(2, .int .i64 seq), (3, .slice none 0 0), (4, .int .i64 0), (5, .pointer (some ⟨g, 0, none⟩)), (6, .func (.func 81) #[.pointer (some ⟨g, 0, none⟩)] #[]), (7, .int .i64 (m : Int))]) ?_ ?_
  · by_cases h24 : 24 < n
    · have t1 : decide ((24 : Int) < (n : Int)) = true := by rw [decide_eq_true_eq]; omega
      have t1n : decide (24 < n) = true := decide_eq_true h24
      have HP2 := Lib.hid (HP1.out.trans (bodyK_many seq n l2 e2 h24))
      clear h24 HP1
      repeat (first | refine kw_seq ?_ | refine kw_region ?_ | refine kl_nil ?_ | refine kq_then ?_ | refine kw_ift rfl ?_ | refine kw_iff rfl ?_ | refine kw_skip ?_ | (first | refine kl_move rfl rfl (.inl rfl) rfl rfl ?_ | refine kl_move rfl rfl (.inr rfl) rfl rfl ?_ | refine kl_const rfl rfl (.inl rfl) rfl ?_ | refine kl_const rfl rfl (.inr rfl) rfl ?_) | ((first | refine kl_step rfl rfl rfl fun K hK => ?_ | refine kl_step0 rfl rfl rfl fun K hK => ?_); go_simp; (try go_bits); (first | refine hK _ _ ?_ | refine hK _ ?_); clear hK K))
      refine kl_call rfl rfl rfl Try.func83 rfl (by kernel_rfl) rfl ?_
      refine Calls.mono (rdFail 4 hR3) ?_
      rintro e w4 ⟨rfl, hR4⟩
      refine ⟨_, rfl, ?_⟩
      repeat (first | refine kw_seq ?_ | refine kw_region ?_ | refine kl_nil ?_ | refine kq_then ?_ | refine kw_ift rfl ?_ | refine kw_iff rfl ?_ | refine kw_skip ?_ | (first | refine kl_move rfl rfl (.inl rfl) rfl rfl ?_ | refine kl_move rfl rfl (.inr rfl) rfl rfl ?_ | refine kl_const rfl rfl (.inl rfl) rfl ?_ | refine kl_const rfl rfl (.inr rfl) rfl ?_) | ((first | refine kl_step rfl rfl rfl fun K hK => ?_ | refine kl_step0 rfl rfl rfl fun K hK => ?_); go_simp; (try go_bits); (first | refine hK _ _ ?_ | refine hK _ ?_); clear hK K))
      refine kq_cut [2, 3, 4, 5, 6, 7] ?_
      simp only [nrm, lk, Nat.reduceBEq, cond_true, cond_false]
      exact ⟨0, l2, _, by omega, HP2, hR4, rfl⟩
    · have t1 : decide ((24 : Int) < (n : Int)) = false := by rw [decide_eq_false_iff_not]; omega
      have t1n : decide (24 < n) = false := decide_eq_false h24
      have HP2 := Lib.hid (HP1.out.trans (bodyK_few seq n l2 e2 h24))
      have hn24 : n ≤ 24 := by omega
      clear h24 HP1
      repeat (first | refine kw_seq ?_ | refine kw_region ?_ | refine kl_nil ?_ | refine kq_then ?_ | refine kw_ift rfl ?_ | refine kw_iff rfl ?_ | refine kw_skip ?_ | (first | refine kl_move rfl rfl (.inl rfl) rfl rfl ?_ | refine kl_move rfl rfl (.inr rfl) rfl rfl ?_ | refine kl_const rfl rfl (.inl rfl) rfl ?_ | refine kl_const rfl rfl (.inr rfl) rfl ?_) | ((first | refine kl_step rfl rfl rfl fun K hK => ?_ | refine kl_step0 rfl rfl rfl fun K hK => ?_); go_simp; (try go_bits); (first | refine hK _ _ ?_ | refine hK _ ?_); clear hK K))
      refine kq_cut [2, 3, 4, 5, 6, 7] ?_
      simp only [nrm, lk, Nat.reduceBEq, cond_true, cond_false]
      exact ⟨n, l2, e2, hn24, HP2, hR3, rfl⟩
  clear HP1 hR3 hub n0 n1 n
  rintro L W ⟨m, l, e, hm, HP, hR, rfl⟩
  have HRK : Hid (RdK true w W g W.heap.size l e (.slice none 0 0) 0 []) := ⟨hR.out.rd, World.ownsRow_nil _ _ _ _, hR.out.rd.lt, Nat.le_refl _, HG.out, (hR.out.lay HG.out).below⟩
  obtain ⟨B, hB⟩ : ∃ B, W.heap.size = B := ⟨_, rfl⟩
  rw [hB] at HRK
  clear hR hB
  repeat (first | refine kw_seq ?_ | refine kw_region ?_ | refine kl_nil ?_ | refine kq_then ?_ | (first | refine kl_move rfl rfl (.inl rfl) rfl rfl ?_ | refine kl_move rfl rfl (.inr rfl) rfl rfl ?_ | refine kl_const rfl rfl (.inl rfl) rfl ?_ | refine kl_const rfl rfl (.inr rfl) rfl ?_) | ((first | refine kl_step rfl rfl rfl fun K hK => ?_ | refine kl_step0 rfl rfl rfl fun K hK => ?_); go_simp; (try go_bits); (first | refine hK _ _ ?_ | refine hK _ ?_); clear hK K))
  refine KW.less [2, 3, 4, 5, 6, 23, 24] ?_
  simp only [nrm, lk, Nat.reduceBEq, cond_true, cond_false]
  refine kw_block ?_
  refine kw_loop (fun mm L W => ∃ i v, i ≤ m ∧ mm = m - i ∧ Hid (RdK true w W g B (kepN i ([], l, e)).2.1 (kepN i ([], l, e)).2.2 v i (kepN i ([], l, e)).1) ∧ L = [(2, .int .i64 seq), (3, v), (4, .int .i64 0), (5, .pointer (some ⟨g, 0, none⟩)), (6, .func (.func 81) #[.pointer (some ⟨g, 0, none⟩)] #[]), (23, .int .i64 (m : Int)), (24, .int .i64 (i : Int))]) ⟨0, .slice none 0 0, by omega, rfl, HRK, rfl⟩ ?_
  clear HRK
  rintro mm L W ⟨i, v, hi, rfl, hK, rfl⟩
  obtain ⟨⟨ks, rl, re⟩, hks⟩ : ∃ K, kepN i ([], l, e) = K := ⟨_, rfl⟩
  have hkl := kepN_len i l e
  rw [hks] at hK hkl
  dsimp only at hK hkl
  by_cases hlt : i < m
  case pos =>
    have t1 : decide ((i : Int) < (m : Int)) = true := by rw [decide_eq_true_eq]; omega
    have t1n : decide (i < m) = true := decide_eq_true hlt
    obtain ⟨i1, hi1⟩ : ∃ i1, i + 1 = i1 := ⟨_, rfl⟩
    have i3 : (i : Int) + 1 = (i1 : Int) := by omega
    have i4 : (0 : Int) ≤ i1 := by omega
    have i5 : (i1 : Int) ≤ 24 := by omega
    have i6 : (0 : Int) ≤ i := by omega
    have HST : Hid (kepN i1 ([], l, e) = stepK (ks, rl, re)) := by show _ = _; rw [← hi1, kepN, hks]
    have HI := Lib.hid (And.intro hi1 (And.intro hlt hm))
    clear hks hi1 hlt hm hi hkl
    repeat (first | refine kw_seq ?_ | refine kw_block ?_ | refine kw_region ?_ | refine kl_nil ?_ | refine kq_then ?_ | refine kw_ift rfl ?_ | refine kw_skip ?_ | (first | refine kl_move rfl rfl (.inl rfl) rfl rfl ?_ | refine kl_move rfl rfl (.inr rfl) rfl rfl ?_ | refine kl_const rfl rfl (.inl rfl) rfl ?_ | refine kl_const rfl rfl (.inr rfl) rfl ?_) | ((first | refine kl_step rfl rfl rfl fun K hK => ?_ | refine kl_step0 rfl rfl rfl fun K hK => ?_); go_simp; (try go_bits); (first | refine hK _ _ ?_ | refine hK _ ?_); clear hK K))
    refine kl_call rfl rfl rfl Try.func84 rfl (by kernel_rfl) rfl ?_
    refine Calls.mono (rdText (Rd.start hK.out.rd)) ?_
    rintro e w4 ⟨rfl, hR4⟩
    refine ⟨_, rfl, ?_⟩
    have hK4 := Lib.hid (hK.out.read hR4)
    have HST2 : Hid (stepK (ks, rl, re) = (ks ++ [⟨(textOf rl re).1, (((taken (textOf rl re).2.1 (textOf rl re).2.2 1).1.headD 0).toNat : Int), tkN (taken (taken (textOf rl re).2.1 (textOf rl re).2.2 1).2.1 (taken (textOf rl re).2.1 (textOf rl re).2.2 1).2.2 8)⟩], (taken (taken (textOf rl re).2.1 (textOf rl re).2.2 1).2.1 (taken (textOf rl re).2.1 (textOf rl re).2.2 1).2.2 8).2)) := rfl
    obtain ⟨pth, hpth⟩ : ∃ x, (textOf rl re).1 = x := ⟨_, rfl⟩
    obtain ⟨l4, e4, hle4⟩ : ∃ a b, (textOf rl re).2 = (a, b) := ⟨_, _, rfl⟩
    rw [hle4] at hK4
    rw [hpth, hle4] at HST2
    rw [hpth]
    dsimp only at hK4 HST2
    clear hK hR4 hpth hle4
    repeat (first | (first | refine kl_move rfl rfl (.inl rfl) rfl rfl ?_ | refine kl_move rfl rfl (.inr rfl) rfl rfl ?_ | refine kl_const rfl rfl (.inl rfl) rfl ?_ | refine kl_const rfl rfl (.inr rfl) rfl ?_) | ((first | refine kl_step rfl rfl rfl fun K hK => ?_ | refine kl_step0 rfl rfl rfl fun K hK => ?_); go_simp; (try go_bits); (first | refine hK _ _ ?_ | refine hK _ ?_); clear hK K))
    refine kl_call rfl rfl rfl Try.func82 rfl (by kernel_rfl) rfl ?_
    refine Calls.mono (rdByte (Rd.start hK4.out.rd)) ?_
    rintro e w5 ⟨rfl, hR5⟩
    refine ⟨_, rfl, ?_⟩
    have hK5 := Lib.hid (hK4.out.read hR5)
    obtain ⟨u, hu⟩ : ∃ u, (taken l4 e4 1).1.headD 0 = u := ⟨_, rfl⟩
    obtain ⟨l5, e5, hle5⟩ : ∃ a b, (taken l4 e4 1).2 = (a, b) := ⟨_, _, rfl⟩
    rw [hle5] at hK5
    rw [hu, hle5] at HST2
    rw [hu]
    dsimp only at hK5 HST2
    clear hK4 hR5 hu hle5
    refine kl_build 29 _ (kepC ⟨pth, (u.toNat : Int), 0⟩).toArray rfl rfl rfl (by rfl) (by rfl) (kepBuilt2 pth (u.toNat : Int)) ?_
    refine kl_varL (z := (kepC kepZ).toArray) (cells := (kepC ⟨pth, (u.toNat : Int), 0⟩).toArray) (Lay.start w5) kepZero (kepInfo _) rfl (kepC_one _) rfl rfl rfl rfl rfl rfl rfl rfl rfl ?_
    intro g8 w6 hg8 hb6 hL6
    have hK6 := Lib.hid (hK5.out.below hb6)
    have hx6 := hL6.at_ 0 rfl
    have hgt : Hid (g < g8) := by show _ < _; have := hK5.out.rd.lt; omega
    have hnv : Hid (v.ownBlock ≠ some g8) := by show _ ≠ _; rw [hg8]; exact hK5.out.fresh
    clear hK5 hb6 hL6 hg8
    repeat (first | refine kw_seq ?_ | refine kw_region ?_ | refine kl_nil ?_ | refine kq_then ?_ | (first | refine kl_move rfl rfl (.inl rfl) rfl rfl ?_ | refine kl_move rfl rfl (.inr rfl) rfl rfl ?_ | refine kl_const rfl rfl (.inl rfl) rfl ?_ | refine kl_const rfl rfl (.inr rfl) rfl ?_) | ((first | refine kl_step rfl rfl rfl fun K hK => ?_ | refine kl_step0 rfl rfl rfl fun K hK => ?_); go_simp; (try go_bits); (first | refine hK _ _ ?_ | refine hK _ ?_); clear hK K))
    refine kl_callp rfl rfl rfl (by exact rfl) Try.func81 rfl (by kernel_rfl) rfl ?_
    refine Calls.mono (rdInt (Rd.start hK6.out.rd)) ?_
    rintro e w7 ⟨rfl, hR7⟩
    refine ⟨_, rfl, ?_⟩
    have hK7 := Lib.hid (hK6.out.read hR7)
    have hx7 : w7.heap[g8]? = some (.cells (kepC ⟨pth, (u.toNat : Int), 0⟩).toArray 29 (0, 0)) := by
      rw [hR7.grown.block g8 (Array.getElem?_eq_some_iff.1 hx6).1 (fun hh => by injection hh with hh; have := hgt.out; omega)]; exact hx6
    obtain ⟨z, hz⟩ : ∃ z, tkN (taken l5 e5 8) = z := ⟨_, rfl⟩
    obtain ⟨l7, e7, hle7⟩ : ∃ a b, (taken l5 e5 8).2 = (a, b) := ⟨_, _, rfl⟩
    rw [hle7] at hK7
    rw [hz, hle7] at HST2
    rw [hz]
    dsimp only at hK7 HST2
    have hcx := cell_of_block (i := 2) (u := .int .i64 0) hx7 rfl
    have hfx := free_of_block (i := 2) hx7
    have hx8 := block_setCell (i := 2) (.int .i64 z) hx7
    have hK8 := Lib.hid (hK7.out.other (grown_set w7 g8 2 (.int .i64 z)) hgt.out hnv.out)
    have HX8 : Hid ((w7.setCell ⟨g8, 2, none⟩ (.int .i64 z)).heap[g8]? = some (.cells (kepC ⟨pth, (u.toNat : Int), z⟩).toArray 29 (0, 0))) := hx8
    clear hK6 hK7 hR7 hx6 hx7 hx8 hz hle7
    repeat (first | (first | refine kl_move rfl rfl (.inl rfl) rfl rfl ?_ | refine kl_move rfl rfl (.inr rfl) rfl rfl ?_ | refine kl_const rfl rfl (.inl rfl) rfl ?_ | refine kl_const rfl rfl (.inr rfl) rfl ?_) | ((first | refine kl_step rfl rfl rfl fun K hK => ?_ | refine kl_step0 rfl rfl rfl fun K hK => ?_); go_simp; (try go_bits); (first | refine hK _ _ ?_ | refine hK _ ?_); clear hK K))
    refine kl_nil ?_
    refine kq_then ?_
    change KW _ _ _ _ _ (w7.setCell ⟨g8, 2, none⟩ (.int .i64 z))
    generalize w7.setCell ⟨g8, 2, none⟩ (.int .i64 z) = w8 at hK8 HX8 ⊢
    clear hcx hfx
    repeat (first | refine kw_seq ?_ | refine kw_region ?_ | refine kl_load_row 29 g8 29 (kepC ⟨pth, (u.toNat : Int), z⟩).toArray (0, 0) _ HX8.out Try.underlying29 rfl (kepInfo _) rfl rfl rfl rfl rfl ?_ | (first | refine kl_move rfl rfl (.inl rfl) rfl rfl ?_ | refine kl_move rfl rfl (.inr rfl) rfl rfl ?_ | refine kl_const rfl rfl (.inl rfl) rfl ?_ | refine kl_const rfl rfl (.inr rfl) rfl ?_))
    refine kl_buildSlice_row (z := kepC kepZ) (cs := kepC ⟨pth, (u.toNat : Int), z⟩) Try.underlying26 kepZero kepSize rfl (by omega) (by omega) rfl rfl rfl rfl rfl ?_
    have hr9 := rangeAt_new w8 (kepC ⟨pth, (u.toNat : Int), z⟩).toArray 29 w8.heap.size rfl
    have hb9 : Below w8.heap.size w8 (w8.alloc (.cells (kepC ⟨pth, (u.toNat : Int), z⟩).toArray 29)) := (Below.refl _ _).alloc (Nat.le_refl _) _
    have hK9 := Lib.hid (hK8.out.below hb9)
    have HR9 : Hid ((w8.alloc (.cells (kepC ⟨pth, (u.toNat : Int), z⟩).toArray 29)).rangeAt w8.heap.size 0 (kepC ⟨pth, (u.toNat : Int), z⟩)) := hr9
    clear hr9 hb9 hK8 HX8
    generalize w8.alloc (.cells (kepC ⟨pth, (u.toNat : Int), z⟩).toArray 29) = w9 at hK9 HR9 ⊢
    generalize w8.heap.size = g9 at HR9 ⊢
    refine kl_appK B v i ks ⟨pth, (u.toNat : Int), z⟩ hK9.out.own g9 1 HR9.out (by have := HI.out; omega) hK9.out.BW rfl rfl rfl rfl rfl rfl ?_
    intro v' w10 ho10 hg10 _
    have hK10 := Lib.hid (hK9.out.app ho10 hg10)
    clear hK9 ho10 hg10 HR9 hgt hnv
    repeat (first | refine kw_seq ?_ | refine kw_region ?_ | refine kl_nil ?_ | refine kq_then ?_ | refine kq_block ?_ | (first | refine kl_move rfl rfl (.inl rfl) rfl rfl ?_ | refine kl_move rfl rfl (.inr rfl) rfl rfl ?_ | refine kl_const rfl rfl (.inl rfl) rfl ?_ | refine kl_const rfl rfl (.inr rfl) rfl ?_) | ((first | refine kl_step rfl rfl rfl fun K hK => ?_ | refine kl_step0 rfl rfl rfl fun K hK => ?_); go_simp; (try go_bits); (first | refine hK _ _ ?_ | refine hK _ ?_); clear hK K))
    have HIo := HI.out
    have hK11 : Hid (RdK true w w10 g B (kepN i1 ([], l, e)).2.1 (kepN i1 ([], l, e)).2.2 v' i1 (kepN i1 ([], l, e)).1) := by
      show RdK _ _ _ _ _ _ _ _ _ _
      rw [HST.out, HST2.out, ← HI.out.1]; exact hK10.out
    refine kq_again (m - i1) [2, 3, 4, 5, 6, 23, 24] (by omega) ?_
    exact ⟨i1, v', by omega, rfl, hK11, rfl⟩
  obtain rfl : i = m := by omega
  have t1 : decide ((i : Int) < (i : Int)) = false := by simp
  have t1n : decide (i < i) = false := by simp
  rw [hks] at HP
  dsimp only at HP
  have HKL := Lib.hid hkl
  obtain ⟨Ak, ck, rfl, hkes, htyk, hkc, hkc9, hknil⟩ := own_kes hK.out.own hkl
  have hkc := Lib.hid (And.intro hkc (And.intro hkc9 hknil))
  have HM24 := Lib.hid hm
  have hkes := Lib.hid hkes
  have htyk := Lib.hid htyk
  have HBE := Lib.hid hK.out.bel
  clear hks hlt hi hkl hm hkc9 hknil
  repeat (first | refine kw_seq ?_ | refine kw_region ?_ | refine kl_nil ?_ | refine kq_then ?_ | refine kq_block ?_ | refine kw_iff rfl ?_ | refine kw_exit ?_ | refine kq_then_exit ?_ | refine kq_again_exit ?_ | refine kq_block_here rfl ?_ | refine kw_skip ?_ | (first | refine kl_move rfl rfl (.inl rfl) rfl rfl ?_ | refine kl_move rfl rfl (.inr rfl) rfl rfl ?_ | refine kl_const rfl rfl (.inl rfl) rfl ?_ | refine kl_const rfl rfl (.inr rfl) rfl ?_) | ((first | refine kl_step rfl rfl rfl fun K hK => ?_ | refine kl_step0 rfl rfl rfl fun K hK => ?_); go_simp; (try go_bits); (first | refine hK _ _ ?_ | refine hK _ ?_); clear hK K))
  clear t1 t1n
  refine kl_call rfl rfl rfl Try.func85 rfl (by kernel_rfl) rfl ?_
  refine Calls.mono (rdEnd (Rd.start hK.out.rd)) ?_
  rintro e w5 ⟨rfl, _, hb5⟩
  refine ⟨_, rfl, ?_⟩
  have HBE5 := Lib.hid (below_then HBE.out hb5 HBE.out.size)
  have hkes5 := Lib.hid (hkes.out.below hb5)
  clear HBE hkes htyk hK hb5
  have HBE := HBE5
  obtain ⟨E, hE⟩ : ∃ E, ended rl re = E := ⟨_, rfl⟩
  rw [hE] at HP ⊢
  clear hE HBE5
  by_cases e0 : E = 0
  case neg =>
    have q1 : (E == 0) = false := by rw [beq_eq_false_iff_ne]; exact e0
    have q2 : (E != 0) = true := bne_iff_ne.2 e0
    have HF := Lib.hid (HP.out.trans (finK_err seq ks E e0))
    repeat (first | refine kw_seq ?_ | refine kw_block ?_ | refine kw_skip ?_ | refine kw_region ?_ | refine kl_nil ?_ | refine kq_then ?_ | refine kq_block ?_ | refine kw_exit ?_ | refine kq_then_exit ?_ | refine kq_block_here rfl ?_ | refine kq_block_far rfl ?_ | refine kq_again_exit ?_ | refine kw_ret ?_ | refine kq_then_ret ?_ | refine kq_block_ret ?_ | refine kq_again_ret ?_ | refine kw_ift rfl ?_ | refine kw_iff rfl ?_ | refine kl_ung rfl rfl ?_ | refine kl_skipg rfl rfl rfl rfl ?_ | refine kl_skipg0 rfl rfl rfl ?_ | (first | refine kl_move rfl rfl (.inl rfl) rfl rfl ?_ | refine kl_move rfl rfl (.inr rfl) rfl rfl ?_ | refine kl_const rfl rfl (.inl rfl) rfl ?_ | refine kl_const rfl rfl (.inr rfl) rfl ?_) | ((first | refine kl_step rfl rfl rfl fun K hK => ?_ | refine kl_step0 rfl rfl rfl fun K hK => ?_); go_simp; (try go_bits); (first | refine hK _ _ ?_ | refine hK _ ?_); clear hK K))
    refine kq_ret3 rfl rfl rfl rfl ⟨none, 0, 0, ?_, ?_, TyK.nil _, by omega, by omega, HBE.out⟩
    · rw [HF.out]
    · rw [HF.out]; exact KeS.nil _ _
  subst e0
  have q1 : ((0 : Int) == 0) = true := rfl
  by_cases d1 : seq < 1
  case pos =>
    have q3 : decide (seq < 1) = true := decide_eq_true d1
    have HF := Lib.hid (HP.out.trans (finK_bad seq ks (badK_lo seq ks d1)))
    repeat (first | refine kw_seq ?_ | refine kw_block ?_ | refine kw_skip ?_ | refine kw_region ?_ | refine kl_nil ?_ | refine kq_then ?_ | refine kq_block ?_ | refine kw_exit ?_ | refine kq_then_exit ?_ | refine kq_block_here rfl ?_ | refine kq_block_far rfl ?_ | refine kq_again_exit ?_ | refine kw_ret ?_ | refine kq_then_ret ?_ | refine kq_block_ret ?_ | refine kq_again_ret ?_ | refine kw_ift rfl ?_ | refine kw_iff rfl ?_ | refine kl_ung rfl rfl ?_ | refine kl_skipg rfl rfl rfl rfl ?_ | refine kl_skipg0 rfl rfl rfl ?_ | (first | refine kl_move rfl rfl (.inl rfl) rfl rfl ?_ | refine kl_move rfl rfl (.inr rfl) rfl rfl ?_ | refine kl_const rfl rfl (.inl rfl) rfl ?_ | refine kl_const rfl rfl (.inr rfl) rfl ?_) | ((first | refine kl_step rfl rfl rfl fun K hK => ?_ | refine kl_step0 rfl rfl rfl fun K hK => ?_); go_simp; (try go_bits); (first | refine hK _ _ ?_ | refine hK _ ?_); clear hK K))
    refine kq_ret3 rfl rfl rfl rfl ⟨none, 0, 0, ?_, ?_, TyK.nil _, by omega, by omega, HBE.out⟩
    · rw [HF.out]
    · rw [HF.out]; exact KeS.nil _ _
  have q3 : decide (seq < 1) = false := decide_eq_false d1
  by_cases d2 : 1073741824 < seq
  case pos =>
    have q4 : decide ((1073741824 : Int) < seq) = true := decide_eq_true d2
    have HF := Lib.hid (HP.out.trans (finK_bad seq ks (badK_hi seq ks d2)))
    repeat (first | refine kw_seq ?_ | refine kw_block ?_ | refine kw_skip ?_ | refine kw_region ?_ | refine kl_nil ?_ | refine kq_then ?_ | refine kq_block ?_ | refine kw_exit ?_ | refine kq_then_exit ?_ | refine kq_block_here rfl ?_ | refine kq_block_far rfl ?_ | refine kq_again_exit ?_ | refine kw_ret ?_ | refine kq_then_ret ?_ | refine kq_block_ret ?_ | refine kq_again_ret ?_ | refine kw_ift rfl ?_ | refine kw_iff rfl ?_ | refine kl_ung rfl rfl ?_ | refine kl_skipg rfl rfl rfl rfl ?_ | refine kl_skipg0 rfl rfl rfl ?_ | (first | refine kl_move rfl rfl (.inl rfl) rfl rfl ?_ | refine kl_move rfl rfl (.inr rfl) rfl rfl ?_ | refine kl_const rfl rfl (.inl rfl) rfl ?_ | refine kl_const rfl rfl (.inr rfl) rfl ?_) | ((first | refine kl_step rfl rfl rfl fun K hK => ?_ | refine kl_step0 rfl rfl rfl fun K hK => ?_); go_simp; (try go_bits); (first | refine hK _ _ ?_ | refine hK _ ?_); clear hK K))
    refine kq_ret3 rfl rfl rfl rfl ⟨none, 0, 0, ?_, ?_, TyK.nil _, by omega, by omega, HBE.out⟩
    · rw [HF.out]
    · rw [HF.out]; exact KeS.nil _ _
  have q4 : decide ((1073741824 : Int) < seq) = false := decide_eq_false d2
  have HBK := Lib.hid (badK_may seq ks d1 d2)
  clear d1 d2
  repeat (first | refine kw_seq ?_ | refine kw_region ?_ | refine kl_nil ?_ | refine kq_then ?_ | refine kw_ift rfl ?_ | refine kw_iff rfl ?_ | refine kw_skip ?_ | refine kl_ung rfl rfl ?_ | refine kl_skipg rfl rfl rfl rfl ?_ | (first | refine kl_move rfl rfl (.inl rfl) rfl rfl ?_ | refine kl_move rfl rfl (.inr rfl) rfl rfl ?_ | refine kl_const rfl rfl (.inl rfl) rfl ?_ | refine kl_const rfl rfl (.inr rfl) rfl ?_) | ((first | refine kl_step rfl rfl rfl fun K hK => ?_ | refine kl_step0 rfl rfl rfl fun K hK => ?_); go_simp; (try go_bits); (first | refine hK _ _ ?_ | refine hK _ ?_); clear hK K))
  refine kl_call rfl rfl rfl Try.func86 rfl (by kernel_rfl) rfl ?_
  refine Calls.mono (containsK_any Ak i ck ks w5 hkes5.out (by have := HM24.out; omega)) ?_
  rintro e w6 ⟨rfl, hb6⟩
  refine ⟨_, rfl, ?_⟩
  have HBE6 := Lib.hid (below_then HBE.out hb6 HBE.out.size)
  have hkes6 := Lib.hid (hkes5.out.below hb6)
  clear HBE hkes5 hb6
  have HBE := HBE6
  obtain ⟨bad, hbad⟩ : ∃ bad, (ks.any fun k => !mayK k) = bad := ⟨_, rfl⟩
  rw [hbad] at HBK ⊢
  clear hbad HBE6
  cases bad
  case true =>
    have HF := Lib.hid (HP.out.trans (finK_bad seq ks HBK.out))
    repeat (first | refine kw_seq ?_ | refine kw_block ?_ | refine kw_skip ?_ | refine kw_region ?_ | refine kl_nil ?_ | refine kq_then ?_ | refine kq_block ?_ | refine kw_exit ?_ | refine kq_then_exit ?_ | refine kq_block_here rfl ?_ | refine kq_block_far rfl ?_ | refine kq_again_exit ?_ | refine kw_ret ?_ | refine kq_then_ret ?_ | refine kq_block_ret ?_ | refine kq_again_ret ?_ | refine kw_ift rfl ?_ | refine kw_iff rfl ?_ | refine kl_ung rfl rfl ?_ | refine kl_skipg rfl rfl rfl rfl ?_ | refine kl_skipg0 rfl rfl rfl ?_ | (first | refine kl_move rfl rfl (.inl rfl) rfl rfl ?_ | refine kl_move rfl rfl (.inr rfl) rfl rfl ?_ | refine kl_const rfl rfl (.inl rfl) rfl ?_ | refine kl_const rfl rfl (.inr rfl) rfl ?_) | ((first | refine kl_step rfl rfl rfl fun K hK => ?_ | refine kl_step0 rfl rfl rfl fun K hK => ?_); go_simp; (try go_bits); (first | refine hK _ _ ?_ | refine hK _ ?_); clear hK K))
    refine kq_ret3 rfl rfl rfl rfl ⟨none, 0, 0, ?_, ?_, TyK.nil _, by omega, by omega, HBE.out⟩
    · rw [HF.out]
    · rw [HF.out]; exact KeS.nil _ _
  have HF := Lib.hid (HP.out.trans (finK_ok seq ks HBK.out))
  repeat (first | refine kw_seq ?_ | refine kw_region ?_ | refine kl_nil ?_ | refine kq_then ?_ | refine kw_ift rfl ?_ | refine kw_iff rfl ?_ | refine kw_skip ?_ | refine kl_ung rfl rfl ?_ | refine kl_skipg rfl rfl rfl rfl ?_ | (first | refine kl_move rfl rfl (.inl rfl) rfl rfl ?_ | refine kl_move rfl rfl (.inr rfl) rfl rfl ?_ | refine kl_const rfl rfl (.inl rfl) rfl ?_ | refine kl_const rfl rfl (.inr rfl) rfl ?_) | ((first | refine kl_step rfl rfl rfl fun K hK => ?_ | refine kl_step0 rfl rfl rfl fun K hK => ?_); go_simp; (try go_bits); (first | refine hK _ _ ?_ | refine hK _ ?_); clear hK K))
  refine kl_call rfl rfl rfl Try.func53 rfl (by kernel_rfl) rfl ?_
  refine Calls.mono (cloneK_any Ak i ck ks w6 hkes6.out (by have := HM24.out; omega) hkc.out.2.2) ?_
  rintro e w7 ⟨v7, rfl, ho7, hb7⟩
  refine ⟨_, rfl, ?_⟩
  obtain ⟨A7, c7, rfl, hk7, hy7, hc7, hm7, _⟩ := own_kes ho7 HKL.out
  have HBE7 := Lib.hid (below_then HBE.out hb7 HBE.out.size)
  have HZ := Lib.hid (And.intro hk7 (And.intro hy7 (And.intro hc7 hm7)))
  clear hk7 hy7 hc7 hm7 ho7 hb7 HBE
  repeat (first | refine kw_seq ?_ | refine kw_block ?_ | refine kw_skip ?_ | refine kw_region ?_ | refine kl_nil ?_ | refine kq_then ?_ | refine kq_block ?_ | refine kw_exit ?_ | refine kq_then_exit ?_ | refine kq_block_here rfl ?_ | refine kq_block_far rfl ?_ | refine kq_again_exit ?_ | refine kw_ret ?_ | refine kq_then_ret ?_ | refine kq_block_ret ?_ | refine kq_again_ret ?_ | refine kw_ift rfl ?_ | refine kw_iff rfl ?_ | refine kl_ung rfl rfl ?_ | refine kl_skipg rfl rfl rfl rfl ?_ | refine kl_skipg0 rfl rfl rfl ?_ | (first | refine kl_move rfl rfl (.inl rfl) rfl rfl ?_ | refine kl_move rfl rfl (.inr rfl) rfl rfl ?_ | refine kl_const rfl rfl (.inl rfl) rfl ?_ | refine kl_const rfl rfl (.inr rfl) rfl ?_) | ((first | refine kl_step rfl rfl rfl fun K hK => ?_ | refine kl_step0 rfl rfl rfl fun K hK => ?_); go_simp; (try go_bits); (first | refine hK _ _ ?_ | refine hK _ ?_); clear hK K))
  refine kq_ret3 rfl rfl rfl rfl ⟨A7, i, c7, ?_, ?_, HZ.out.2.1, HZ.out.2.2.1, HZ.out.2.2.2, HBE7.out⟩
  · rw [HF.out]
  · rw [HF.out]; exact HZ.out.1
end Go.Proofs.Ytcpifcdndhhmgaa
