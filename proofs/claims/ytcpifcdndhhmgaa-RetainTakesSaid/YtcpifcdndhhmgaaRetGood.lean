/- Few and Good of the law's package. -/
import Derived.Test.YtcpifcdndhhmgaaTakGoodM
import Derived.Test.YtcpifcdndhhmgaaRow
import Derived.Test.YtcpifcdndhhmgaaRetRd
set_option linter.unusedVariables false
set_option linter.unusedSimpArgs false
namespace Go.Proofs.Ytcpifcdndhhmgaa
open Go.RowKit
attribute [local go_sem] ev_tmp ev_const ev_func ev_global lk_hit lk_miss uponK_value uponK_skip look_tmp look_const look_global look_func valP_value
set_option maxRecDepth 100000 in
set_option maxHeartbeats 1000000 in
theorem few16_any (A : Option Addr) (n c : Nat) (l : List KepS) (w : World) (hA : KeS w A n l) (hnc : n ≤ c) (hc : c ≤ 9223372036854775807) : Calls Try.prog 17 #[.slice A n c] w fun e w' => e = .returned (.bool (fewK l)) ∧ w = w' := by
  have HL := Lib.hid hA.len
  refine calls_kw Try.func17 rfl Try.ntmps17 rfl [(0, .slice A n c)] rfl ?_
  repeat (first | refine kw_seq ?_ | refine kw_region ?_ | refine kl_nil ?_ | refine kq_then ?_ | (first | refine kl_move rfl rfl (.inl rfl) rfl rfl ?_ | refine kl_move rfl rfl (.inr rfl) rfl rfl ?_ | refine kl_const rfl rfl (.inl rfl) rfl ?_ | refine kl_const rfl rfl (.inr rfl) rfl ?_))
  refine KW.less [0, 3] ?_
  simp only [nrm, lk, Nat.reduceBEq, cond_true, cond_false]
  refine kw_block ?_
  refine kw_loop (fun mm L W => ∃ i, i ≤ n ∧ mm = n - i ∧ Hid (((l.take i).all fun k => decide (k.path.length ≤ 30)) = true) ∧ w = W ∧ L = [(0, .slice A n c), (3, .int .i64 (i : Int))]) ⟨0, by omega, rfl, by show _ = _; simp, rfl, rfl⟩ ?_
  rintro mm L W ⟨i, hi, rfl, htk, rfl, rfl⟩
  by_cases hlt : i < n
  case neg =>
    obtain rfl : i = n := by omega
    have t1 : decide ((i : Int) < (i : Int)) = false := by simp
    have t1n : decide (i < i) = false := by simp
    obtain ⟨bb, hbb⟩ : ∃ bb, decide (i ≤ 30) = bb := ⟨_, rfl⟩
    have t2 : decide ((i : Int) ≤ 30) = bb := by rw [← hbb]; exact decide_eq_decide.2 (by omega)
    have HE : Hid (fewK l = bb) := by
      show _ = _
      unfold fewK
      have := htk.out
      rw [List.take_of_length_le (by rw [HL.out]; exact Nat.le_refl _)] at this
      rw [this, HL.out, hbb]; rfl
    clear hlt hi htk
    repeat (first | refine kw_seq ?_ | refine kw_block ?_ | refine kw_skip ?_ | refine kw_region ?_ | refine kl_nil ?_ | refine kq_then ?_ | refine kq_block ?_ | refine kw_exit ?_ | refine kq_then_exit ?_ | refine kq_block_here rfl ?_ | refine kq_block_far rfl ?_ | refine kq_again_exit ?_ | refine kw_ret ?_ | refine kq_then_ret ?_ | refine kq_block_ret ?_ | refine kq_again_ret ?_ | refine kw_ift rfl ?_ | refine kw_iff rfl ?_ | refine kl_ung rfl rfl ?_ | refine kl_skipg rfl rfl rfl rfl ?_ | refine kl_skipg0 rfl rfl rfl ?_ | (first | refine kl_move rfl rfl (.inl rfl) rfl rfl ?_ | refine kl_move rfl rfl (.inr rfl) rfl rfl ?_ | refine kl_const rfl rfl (.inl rfl) rfl ?_ | refine kl_const rfl rfl (.inr rfl) rfl ?_) | ((first | refine kl_step rfl rfl rfl fun K hK => ?_ | refine kl_step0 rfl rfl rfl fun K hK => ?_); go_simp; (try go_bits); (first | refine hK _ _ ?_ | refine hK _ ?_); clear hK K))
    exact kq_ret1 rfl rfl ⟨by rw [HE.out], rfl⟩
  have t1 : decide ((i : Int) < (n : Int)) = true := by rw [decide_eq_true_eq]; omega
  have t1n : decide (i < n) = true := decide_eq_true hlt
  have u0 : (0 : Int) ≤ i := by omega
  have u1 : (i : Int) < n := by omega
  obtain ⟨i1, hi1⟩ : ∃ i1, i + 1 = i1 := ⟨_, rfl⟩
  have i3 : (i : Int) + 1 = (i1 : Int) := by omega
  have i4 : (0 : Int) ≤ i1 := by omega
  have i5 : (i1 : Int) ≤ 9223372036854775807 := by omega
  obtain ⟨gA, oA, p, rfl, hra, hx, hgx⟩ := hA.next hlt
  obtain ⟨oi, hoi⟩ : ∃ oi, oA + i * 3 = oi := ⟨_, rfl⟩
  rw [hoi] at hra
  have c0 : w.cell? ⟨gA, oi, none⟩ = some (.string ⟨p.path.toArray⟩) := hra 0 _ rfl
  have HI := Lib.hid (And.intro hi1 hlt)
  clear hra hi1 hlt hi
  by_cases h30 : p.path.length ≤ 30
  case neg =>
    have q1 : decide ((30 : Int) < (p.path.length : Int)) = true := by rw [decide_eq_true_eq]; omega
    have q1n : decide (30 < p.path.length) = true := by rw [decide_eq_true_eq]; omega
    have HE : Hid (fewK l = false) := by
      show _ = _
      unfold fewK
      have : (l.all fun k => decide (k.path.length ≤ 30)) = false := List.all_eq_false.2 ⟨p, List.mem_of_getElem? hgx.out, by simpa using h30⟩
      rw [this]; rfl
    clear h30
    repeat (first | refine kw_seq ?_ | refine kw_block ?_ | refine kw_skip ?_ | refine kw_region ?_ | refine kl_nil ?_ | refine kq_then ?_ | refine kq_block ?_ | refine kw_exit ?_ | refine kq_then_exit ?_ | refine kq_block_here rfl ?_ | refine kq_block_far rfl ?_ | refine kq_again_exit ?_ | refine kw_ret ?_ | refine kq_then_ret ?_ | refine kq_block_ret ?_ | refine kq_again_ret ?_ | refine kw_ift rfl ?_ | refine kw_iff rfl ?_ | refine kl_ung rfl rfl ?_ | refine kl_skipg rfl rfl rfl rfl ?_ | refine kl_skipg0 rfl rfl rfl ?_ | (first | refine kl_move rfl rfl (.inl rfl) rfl rfl ?_ | refine kl_move rfl rfl (.inr rfl) rfl rfl ?_ | refine kl_const rfl rfl (.inl rfl) rfl ?_ | refine kl_const rfl rfl (.inr rfl) rfl ?_) | ((first | refine kl_step rfl rfl rfl fun K hK => ?_ | refine kl_step0 rfl rfl rfl fun K hK => ?_); go_simp; (try go_bits); (first | refine hK _ _ ?_ | refine hK _ ?_); clear hK K))
    exact kq_ret1 rfl rfl ⟨by rw [HE.out], rfl⟩
  have q1 : decide ((30 : Int) < (p.path.length : Int)) = false := by rw [decide_eq_false_iff_not]; omega
  have q1n : decide (30 < p.path.length) = false := by rw [decide_eq_false_iff_not]; omega
  have HT : Hid (((l.take i1).all fun k => decide (k.path.length ≤ 30)) = true) := by
    show _ = _
    rw [← HI.out.1, hx.out, List.all_append, htk.out]; simpa using h30
  clear h30
  repeat (first | refine kw_seq ?_ | refine kw_block ?_ | refine kw_region ?_ | refine kl_nil ?_ | refine kq_then ?_ | refine kq_block ?_ | refine kw_ift rfl ?_ | refine kw_iff rfl ?_ | refine kw_skip ?_ | (first | refine kl_move rfl rfl (.inl rfl) rfl rfl ?_ | refine kl_move rfl rfl (.inr rfl) rfl rfl ?_ | refine kl_const rfl rfl (.inl rfl) rfl ?_ | refine kl_const rfl rfl (.inr rfl) rfl ?_) | ((first | refine kl_step rfl rfl rfl fun K hK => ?_ | refine kl_step0 rfl rfl rfl fun K hK => ?_); go_simp; (try go_bits); (first | refine hK _ _ ?_ | refine hK _ ?_); clear hK K))
  refine kq_again (n - i1) [0, 3] (by have := HI.out; omega) ?_
  exact ⟨i1, by have := HI.out; omega, rfl, HT, rfl, rfl⟩
def GoodP16 (l : List KepS) (w : World) (e : Ending) (w' : World) : Prop := ∃ v, e = .returned v ∧ w'.ownsRow w.heap.size 29 3 v (goodK l).length (flatK (goodK l)) ∧ Below w.heap.size w w'
set_option maxRecDepth 100000 in
set_option maxHeartbeats 4000000 in
theorem good16_any (A : Option Addr) (n c : Nat) (l : List KepS) (w : World) (hA : KeS w A n l) (hnc : n ≤ c) (hc : c ≤ 9223372036854775807) : Calls Try.prog 19 #[.slice A n c] w (GoodP16 l w) := by
  have HL := Lib.hid hA.len
  refine calls_kw Try.func19 rfl Try.ntmps19 rfl [(0, .slice A n c)] rfl ?_
  repeat (first | refine kw_seq ?_ | refine kw_region ?_ | refine kl_nil ?_ | refine kq_then ?_ | (first | refine kl_move rfl rfl (.inl rfl) rfl rfl ?_ | refine kl_move rfl rfl (.inr rfl) rfl rfl ?_ | refine kl_const rfl rfl (.inl rfl) rfl ?_ | refine kl_const rfl rfl (.inr rfl) rfl ?_))
  refine KW.less [0, 3, 4] ?_
  simp only [nrm, lk, Nat.reduceBEq, cond_true, cond_false]
  refine kw_block ?_
  refine kw_loop (fun mm L W => ∃ i v, i ≤ n ∧ i ≤ 24 ∧ mm = n - i ∧ Hid (W.ownsRow w.heap.size 29 3 v i (flatK (goodK (l.take i)))) ∧ Hid (Below w.heap.size w W) ∧ L = [(0, .slice A n c), (3, v), (4, .int .i64 (i : Int))]) ⟨0, .slice none 0 0, by omega, by omega, rfl, World.ownsRow_nil _ _ _ _, Below.refl _ _, rfl⟩ ?_
  rintro mm L W ⟨i, v, hi, hi24, rfl, hO, hb, rfl⟩
  by_cases hlt : i < n
  case neg =>
    have t1 : decide ((i : Int) < (n : Int)) = false := by rw [decide_eq_false_iff_not]; omega
    have t1n : decide (i < n) = false := decide_eq_false hlt
    have HE := Lib.hid (goodK_end l i (by first | (left; rw [HL.out]; omega) | (right; omega)))
    have HO : Hid (W.ownsRow w.heap.size 29 3 v (goodK l).length (flatK (goodK l))) := by
      have h1 := hO.out
      rw [HE.out] at h1
      have h2 : (goodK l).length = i := by rw [goodK_len, HL.out]; omega
      show World.ownsRow _ _ _ _ _ _ _
      rw [h2]; exact h1
    clear hO HE hi hi24
    clear hlt
    repeat (first | refine kw_seq ?_ | refine kw_block ?_ | refine kw_skip ?_ | refine kw_region ?_ | refine kl_nil ?_ | refine kq_then ?_ | refine kq_block ?_ | refine kw_exit ?_ | refine kq_then_exit ?_ | refine kq_block_here rfl ?_ | refine kq_block_far rfl ?_ | refine kq_again_exit ?_ | refine kw_ret ?_ | refine kq_then_ret ?_ | refine kq_block_ret ?_ | refine kq_again_ret ?_ | refine kw_ift rfl ?_ | refine kw_iff rfl ?_ | refine kl_ung rfl rfl ?_ | refine kl_skipg rfl rfl rfl rfl ?_ | refine kl_skipg0 rfl rfl rfl ?_ | (first | refine kl_move rfl rfl (.inl rfl) rfl rfl ?_ | refine kl_move rfl rfl (.inr rfl) rfl rfl ?_ | refine kl_const rfl rfl (.inl rfl) rfl ?_ | refine kl_const rfl rfl (.inr rfl) rfl ?_) | ((first | refine kl_step rfl rfl rfl fun K hK => ?_ | refine kl_step0 rfl rfl rfl fun K hK => ?_); go_simp; (try go_bits); (first | refine hK _ _ ?_ | refine hK _ ?_); clear hK K))
    exact kq_ret1 rfl rfl ⟨v, rfl, HO.out, hb.out⟩
  have t1 : decide ((i : Int) < (n : Int)) = true := by rw [decide_eq_true_eq]; omega
  have t1n : decide (i < n) = true := decide_eq_true hlt
  by_cases h24 : i < 24
  case neg =>
    have t2 : decide ((i : Int) < 24) = false := by rw [decide_eq_false_iff_not]; omega
    have t2n : decide (i < 24) = false := decide_eq_false h24
    have HE := Lib.hid (goodK_end l i (by first | (left; rw [HL.out]; omega) | (right; omega)))
    have HO : Hid (W.ownsRow w.heap.size 29 3 v (goodK l).length (flatK (goodK l))) := by
      have h1 := hO.out
      rw [HE.out] at h1
      have h2 : (goodK l).length = i := by rw [goodK_len, HL.out]; omega
      show World.ownsRow _ _ _ _ _ _ _
      rw [h2]; exact h1
    clear hO HE hi hi24
    clear hlt h24
    repeat (first | refine kw_seq ?_ | refine kw_block ?_ | refine kw_skip ?_ | refine kw_region ?_ | refine kl_nil ?_ | refine kq_then ?_ | refine kq_block ?_ | refine kw_exit ?_ | refine kq_then_exit ?_ | refine kq_block_here rfl ?_ | refine kq_block_far rfl ?_ | refine kq_again_exit ?_ | refine kw_ret ?_ | refine kq_then_ret ?_ | refine kq_block_ret ?_ | refine kq_again_ret ?_ | refine kw_ift rfl ?_ | refine kw_iff rfl ?_ | refine kl_ung rfl rfl ?_ | refine kl_skipg rfl rfl rfl rfl ?_ | refine kl_skipg0 rfl rfl rfl ?_ | (first | refine kl_move rfl rfl (.inl rfl) rfl rfl ?_ | refine kl_move rfl rfl (.inr rfl) rfl rfl ?_ | refine kl_const rfl rfl (.inl rfl) rfl ?_ | refine kl_const rfl rfl (.inr rfl) rfl ?_) | ((first | refine kl_step rfl rfl rfl fun K hK => ?_ | refine kl_step0 rfl rfl rfl fun K hK => ?_); go_simp; (try go_bits); (first | refine hK _ _ ?_ | refine hK _ ?_); clear hK K))
    exact kq_ret1 rfl rfl ⟨v, rfl, HO.out, hb.out⟩
  have t2 : decide ((i : Int) < 24) = true := by rw [decide_eq_true_eq]; omega
  have t2n : decide (i < 24) = true := decide_eq_true h24
  have u0 : (0 : Int) ≤ i := by omega
  have u1 : (i : Int) < n := by omega
  obtain ⟨i1, hi1⟩ : ∃ i1, i + 1 = i1 := ⟨_, rfl⟩
  have i3 : (i : Int) + 1 = (i1 : Int) := by omega
  have i4 : (0 : Int) ≤ i1 := by omega
  have i5 : (i1 : Int) ≤ 24 := by omega
  obtain ⟨gA, oA, p, rfl, hra, hx, hgx⟩ := hA.next hlt
  obtain ⟨oi, hoi⟩ : ∃ oi, oA + i * 3 = oi := ⟨_, rfl⟩
  rw [hoi] at hra
  have HRA := Lib.hid hra
  have HI := Lib.hid (And.intro hi1 (And.intro hlt h24))
  have HNX := Lib.hid (goodK_next l i p h24 hx.out)
  have c1 : W.cell? ⟨gA, oi + 1, none⟩ = some (.int .i64 p.kind) := Keeps.of_below hb.out _ _ (HRA.out 1 _ rfl)
  rw [hi1] at HNX
  clear hra hi1 hlt hi h24 hi24 hx hgx
  repeat (first | refine kw_seq ?_ | refine kw_block ?_ | refine kw_region ?_ | refine kl_nil ?_ | refine kq_then ?_ | refine kw_ift rfl ?_ | refine kw_skip ?_ | refine kl_ung rfl rfl ?_ | (first | refine kl_move rfl rfl (.inl rfl) rfl rfl ?_ | refine kl_move rfl rfl (.inr rfl) rfl rfl ?_ | refine kl_const rfl rfl (.inl rfl) rfl ?_ | refine kl_const rfl rfl (.inr rfl) rfl ?_) | ((first | refine kl_step rfl rfl rfl fun K hK => ?_ | refine kl_step0 rfl rfl rfl fun K hK => ?_); go_simp; (try go_bits); (first | refine hK _ _ ?_ | refine hK _ ?_); clear hK K))
  refine kl_call rfl rfl rfl Try.func9 rfl (by kernel_rfl) rfl ?_
  refine Calls.mono (within16_any p.kind 6 6 W rfl (by omega) (by omega)) ?_
  rintro e _ ⟨rfl, rfl⟩
  refine ⟨_, rfl, ?_⟩
  have hw6 := within_lt p.kind 6 (by omega)
  obtain ⟨kw, hkw⟩ : ∃ kw, within p.kind 6 = kw := ⟨_, rfl⟩
  rw [hkw] at hw6 ⊢
  obtain ⟨kd, hkd⟩ : ∃ kd, 1 + kw = kd := ⟨_, rfl⟩
  have k1 : (1 : Int) + (kw : Int) = (kd : Int) := by omega
  have k2 : (0 : Int) ≤ kd := by omega
  have k3 : (kd : Int) ≤ 6 := by omega
  have HGI : Hid (goodIt p = ⟨p.path.take 20, (kd : Int), wrapK (kd : Int) p.value⟩) := by show _ = _; unfold goodIt; rw [hkw, hkd]
  clear hw6 hkw hkd c1
  repeat (first | (first | refine kl_move rfl rfl (.inl rfl) rfl rfl ?_ | refine kl_move rfl rfl (.inr rfl) rfl rfl ?_ | refine kl_const rfl rfl (.inl rfl) rfl ?_ | refine kl_const rfl rfl (.inr rfl) rfl ?_) | ((first | refine kl_step rfl rfl rfl fun K hK => ?_ | refine kl_step0 rfl rfl rfl fun K hK => ?_); go_simp; (try go_bits); (first | refine hK _ _ ?_ | refine hK _ ?_); clear hK K))
  refine kl_nil ?_
  refine kq_then ?_
  clear t1 t1n t2 t2n k1
  have hR : Below w.heap.size w W.drew := below_then hb.out ((Below.refl _ _).drew) hb.out.size
  have c2 : ∀ W, Below w.heap.size w W → W.cell? ⟨gA, oi, none⟩ = some (.string ⟨p.path.toArray⟩) := fun W h => Keeps.of_below h _ _ (HRA.out 0 _ rfl)
  have c3 : ∀ W, Below w.heap.size w W → W.cell? ⟨gA, oi + 2, none⟩ = some (.int .i64 p.value) := fun W h => Keeps.of_below h _ _ (HRA.out 2 _ rfl)
  have HO3 := Lib.hid (own_below hO.out (Below.refl _ _).drew)
  clear hO
  refine kw_region_f (Below w.heap.size w) [true, true, true, true, true, true, true, true, true, true, true, true, true, true, true, true, true, true, true, true, true, false, false, false, false, true] (by kernel_rfl) (by kernel_rfl) hR ?_
  clear hb
  generalize W.drew = w4 at *
  obtain ⟨T, hT⟩ : ∃ T, p.path.take 20 = T := ⟨_, rfl⟩
  rw [hT] at HGI
  have HTT := Lib.hid hT
  clear hT
  by_cases h20 : 20 < p.path.length
  · have q1 : (20 : Int) < (p.path.length : Int) := by omega
    have q3 : (20 : Int) ≤ (p.path.length : Int) := by omega
    have q4 := size_str p.path
    have q2 : (⟨p.path.toArray⟩ : ByteArray).extract 0 20 = ⟨T.toArray⟩ := by rw [str_cut, HTT.out]
    clear h20
    repeat (first | refine kf_nil ?_ | refine kf_ung rfl rfl ?_ | refine kf_skipg rfl rfl rfl rfl ?_ | (first | refine kf_move rfl rfl (.inl rfl) rfl rfl ?_ | refine kf_move rfl rfl (.inr rfl) rfl rfl ?_ | refine kf_const rfl rfl (.inl rfl) rfl ?_ | refine kf_const rfl rfl (.inr rfl) rfl ?_) | (refine kf_val rfl rfl rfl ?_; apply Exists.intro; refine And.intro (fun W hW N hN => ?_) ?_; · (go_simp; (try go_bits); exact hN)))
    refine kf_ch ?_
    refine kl_call rfl rfl rfl Try.func30 rfl (by kernel_rfl) rfl ?_
    refine Calls.mono (wrapR_any (kd : Int) p.value w4) ?_
    rintro e _ ⟨rfl, rfl⟩
    refine ⟨_, rfl, ?_⟩
    refine kl_nil ?_
    refine kq_f hR ?_
    obtain ⟨z, hz⟩ : ∃ z, wrapK (kd : Int) p.value = z := ⟨_, rfl⟩
    rw [hz] at HGI ⊢
    clear hz
    repeat (first | refine kf_nil ?_ | refine kf_ung rfl rfl ?_ | refine kf_skipg rfl rfl rfl rfl ?_ | (first | refine kf_move rfl rfl (.inl rfl) rfl rfl ?_ | refine kf_move rfl rfl (.inr rfl) rfl rfl ?_ | refine kf_const rfl rfl (.inl rfl) rfl ?_ | refine kf_const rfl rfl (.inr rfl) rfl ?_) | (refine kf_val rfl rfl rfl ?_; apply Exists.intro; refine And.intro (fun W hW N hN => ?_) ?_; · (go_simp; (try go_bits); exact hN)))
    refine kf_ch ?_
    refine kl_build 29 _ (kepC ⟨T, (kd : Int), z⟩).toArray rfl rfl rfl (by rfl) (by rfl) (kepBuilt3 T (kd : Int) z) ?_
    refine kl_nil ?_
    refine kq_f hR ?_
    repeat (first | refine kf_nil ?_ | refine kf_ung rfl rfl ?_ | refine kf_skipg rfl rfl rfl rfl ?_ | (first | refine kf_move rfl rfl (.inl rfl) rfl rfl ?_ | refine kf_move rfl rfl (.inr rfl) rfl rfl ?_ | refine kf_const rfl rfl (.inl rfl) rfl ?_ | refine kf_const rfl rfl (.inr rfl) rfl ?_) | (refine kf_val rfl rfl rfl ?_; apply Exists.intro; refine And.intro (fun W hW N hN => ?_) ?_; · (go_simp; (try go_bits); exact hN)))
    refine kf_ch ?_
    refine kl_buildSlice_row (z := kepC kepZ) (cs := kepC ⟨T, (kd : Int), z⟩) Try.underlying26 kepZero kepSize rfl (by omega) (by omega) rfl rfl rfl rfl rfl ?_
    have hr5 := rangeAt_new w4 (kepC ⟨T, (kd : Int), z⟩).toArray 29 w4.heap.size rfl
    have hb5 : Below w4.heap.size w4 (w4.alloc (.cells (kepC ⟨T, (kd : Int), z⟩).toArray 29)) := (Below.refl _ _).alloc (Nat.le_refl _) _
    have HO5 := Lib.hid (own_below HO3.out hb5)
    have hR5 := below_then hR hb5 hR.size
    have HR5 : Hid ((w4.alloc (.cells (kepC ⟨T, (kd : Int), z⟩).toArray 29)).rangeAt w4.heap.size 0 (kepC ⟨T, (kd : Int), z⟩)) := hr5
    clear hr5 hb5 HO3 hR
    generalize w4.alloc (.cells (kepC ⟨T, (kd : Int), z⟩).toArray 29) = w5 at HO5 hR5 HR5 ⊢
    generalize w4.heap.size = g5 at HR5 ⊢
    refine kl_nil ?_
    refine kq_f hR5 ?_
    repeat (first | refine kf_nil ?_ | refine kf_ung rfl rfl ?_ | refine kf_skipg rfl rfl rfl rfl ?_ | (first | refine kf_move rfl rfl (.inl rfl) rfl rfl ?_ | refine kf_move rfl rfl (.inr rfl) rfl rfl ?_ | refine kf_const rfl rfl (.inl rfl) rfl ?_ | refine kf_const rfl rfl (.inr rfl) rfl ?_) | (refine kf_val rfl rfl rfl ?_; apply Exists.intro; refine And.intro (fun W hW N hN => ?_) ?_; · (go_simp; (try go_bits); exact hN)))
    refine kf_ch ?_
    refine kl_appK w.heap.size v i (goodK (l.take i)) ⟨T, (kd : Int), z⟩ HO5.out g5 1 HR5.out (by have := HI.out; omega) hR5.size rfl rfl rfl rfl rfl rfl ?_
    intro v6 w6 ho6 hg6 _
    have hR6 := below_appendN hR5 hg6 HO5.out hR5.size
    rw [← HGI.out, ← HNX.out, HI.out.1] at ho6
    have HO6 := Lib.hid ho6
    clear ho6 hg6 HO5 HR5 hR5
    refine kl_nil ?_
    refine kq_f hR6 ?_
    repeat (first | refine kf_nil ?_ | refine kf_ung rfl rfl ?_ | refine kf_skipg rfl rfl rfl rfl ?_ | (first | refine kf_move rfl rfl (.inl rfl) rfl rfl ?_ | refine kf_move rfl rfl (.inr rfl) rfl rfl ?_ | refine kf_const rfl rfl (.inl rfl) rfl ?_ | refine kf_const rfl rfl (.inr rfl) rfl ?_) | (refine kf_val rfl rfl rfl ?_; apply Exists.intro; refine And.intro (fun W hW N hN => ?_) ?_; · (go_simp; (try go_bits); exact hN)))
    have HB6 := Lib.hid hR6
    clear c2 c3 hR6 q1 q2 q3 q4
    repeat (first | refine kw_seq ?_ | refine kw_region ?_ | refine kl_nil ?_ | refine kq_then ?_ | refine kq_block ?_ | refine kw_iff rfl ?_ | refine kw_exit ?_ | refine kq_then_exit ?_ | refine kq_again_exit ?_ | refine kq_block_here rfl ?_ | refine kw_skip ?_ | refine kl_ung rfl rfl ?_ | refine kl_skipg rfl rfl rfl rfl ?_ | (first | refine kl_move rfl rfl (.inl rfl) rfl rfl ?_ | refine kl_move rfl rfl (.inr rfl) rfl rfl ?_ | refine kl_const rfl rfl (.inl rfl) rfl ?_ | refine kl_const rfl rfl (.inr rfl) rfl ?_) | ((first | refine kl_step rfl rfl rfl fun K hK => ?_ | refine kl_step0 rfl rfl rfl fun K hK => ?_); go_simp; (try go_bits); (first | refine hK _ _ ?_ | refine hK _ ?_); clear hK K))
    refine kq_again (n - i1) [0, 3, 4] (by have := HI.out; omega) ?_
    exact ⟨i1, v6, by have := HI.out; omega, by have := HI.out; omega, rfl, HO6, HB6, rfl⟩
  · have q1 : ¬ (20 : Int) < (p.path.length : Int) := by omega
    have q3 : (0 : Int) ≤ (p.path.length : Int) := by omega
    have q4 := size_str p.path
    have q2 : (⟨p.path.toArray⟩ : ByteArray).extract 0 p.path.length = ⟨T.toArray⟩ := by rw [str_cut, ← HTT.out, List.take_of_length_le (Nat.le_refl _), List.take_of_length_le (by omega)]
    clear h20
    repeat (first | refine kf_nil ?_ | refine kf_ung rfl rfl ?_ | refine kf_skipg rfl rfl rfl rfl ?_ | (first | refine kf_move rfl rfl (.inl rfl) rfl rfl ?_ | refine kf_move rfl rfl (.inr rfl) rfl rfl ?_ | refine kf_const rfl rfl (.inl rfl) rfl ?_ | refine kf_const rfl rfl (.inr rfl) rfl ?_) | (refine kf_val rfl rfl rfl ?_; apply Exists.intro; refine And.intro (fun W hW N hN => ?_) ?_; · (go_simp; (try go_bits); exact hN)))
    refine kf_ch ?_
    refine kl_call rfl rfl rfl Try.func30 rfl (by kernel_rfl) rfl ?_
    refine Calls.mono (wrapR_any (kd : Int) p.value w4) ?_
    rintro e _ ⟨rfl, rfl⟩
    refine ⟨_, rfl, ?_⟩
    refine kl_nil ?_
    refine kq_f hR ?_
    obtain ⟨z, hz⟩ : ∃ z, wrapK (kd : Int) p.value = z := ⟨_, rfl⟩
    rw [hz] at HGI ⊢
    clear hz
    repeat (first | refine kf_nil ?_ | refine kf_ung rfl rfl ?_ | refine kf_skipg rfl rfl rfl rfl ?_ | (first | refine kf_move rfl rfl (.inl rfl) rfl rfl ?_ | refine kf_move rfl rfl (.inr rfl) rfl rfl ?_ | refine kf_const rfl rfl (.inl rfl) rfl ?_ | refine kf_const rfl rfl (.inr rfl) rfl ?_) | (refine kf_val rfl rfl rfl ?_; apply Exists.intro; refine And.intro (fun W hW N hN => ?_) ?_; · (go_simp; (try go_bits); exact hN)))
    refine kf_ch ?_
    refine kl_build 29 _ (kepC ⟨T, (kd : Int), z⟩).toArray rfl rfl rfl (by rfl) (by rfl) (kepBuilt3 T (kd : Int) z) ?_
    refine kl_nil ?_
    refine kq_f hR ?_
    repeat (first | refine kf_nil ?_ | refine kf_ung rfl rfl ?_ | refine kf_skipg rfl rfl rfl rfl ?_ | (first | refine kf_move rfl rfl (.inl rfl) rfl rfl ?_ | refine kf_move rfl rfl (.inr rfl) rfl rfl ?_ | refine kf_const rfl rfl (.inl rfl) rfl ?_ | refine kf_const rfl rfl (.inr rfl) rfl ?_) | (refine kf_val rfl rfl rfl ?_; apply Exists.intro; refine And.intro (fun W hW N hN => ?_) ?_; · (go_simp; (try go_bits); exact hN)))
    refine kf_ch ?_
    refine kl_buildSlice_row (z := kepC kepZ) (cs := kepC ⟨T, (kd : Int), z⟩) Try.underlying26 kepZero kepSize rfl (by omega) (by omega) rfl rfl rfl rfl rfl ?_
    have hr5 := rangeAt_new w4 (kepC ⟨T, (kd : Int), z⟩).toArray 29 w4.heap.size rfl
    have hb5 : Below w4.heap.size w4 (w4.alloc (.cells (kepC ⟨T, (kd : Int), z⟩).toArray 29)) := (Below.refl _ _).alloc (Nat.le_refl _) _
    have HO5 := Lib.hid (own_below HO3.out hb5)
    have hR5 := below_then hR hb5 hR.size
    have HR5 : Hid ((w4.alloc (.cells (kepC ⟨T, (kd : Int), z⟩).toArray 29)).rangeAt w4.heap.size 0 (kepC ⟨T, (kd : Int), z⟩)) := hr5
    clear hr5 hb5 HO3 hR
    generalize w4.alloc (.cells (kepC ⟨T, (kd : Int), z⟩).toArray 29) = w5 at HO5 hR5 HR5 ⊢
    generalize w4.heap.size = g5 at HR5 ⊢
    refine kl_nil ?_
    refine kq_f hR5 ?_
    repeat (first | refine kf_nil ?_ | refine kf_ung rfl rfl ?_ | refine kf_skipg rfl rfl rfl rfl ?_ | (first | refine kf_move rfl rfl (.inl rfl) rfl rfl ?_ | refine kf_move rfl rfl (.inr rfl) rfl rfl ?_ | refine kf_const rfl rfl (.inl rfl) rfl ?_ | refine kf_const rfl rfl (.inr rfl) rfl ?_) | (refine kf_val rfl rfl rfl ?_; apply Exists.intro; refine And.intro (fun W hW N hN => ?_) ?_; · (go_simp; (try go_bits); exact hN)))
    refine kf_ch ?_
    refine kl_appK w.heap.size v i (goodK (l.take i)) ⟨T, (kd : Int), z⟩ HO5.out g5 1 HR5.out (by have := HI.out; omega) hR5.size rfl rfl rfl rfl rfl rfl ?_
    intro v6 w6 ho6 hg6 _
    have hR6 := below_appendN hR5 hg6 HO5.out hR5.size
    rw [← HGI.out, ← HNX.out, HI.out.1] at ho6
    have HO6 := Lib.hid ho6
    clear ho6 hg6 HO5 HR5 hR5
    refine kl_nil ?_
    refine kq_f hR6 ?_
    repeat (first | refine kf_nil ?_ | refine kf_ung rfl rfl ?_ | refine kf_skipg rfl rfl rfl rfl ?_ | (first | refine kf_move rfl rfl (.inl rfl) rfl rfl ?_ | refine kf_move rfl rfl (.inr rfl) rfl rfl ?_ | refine kf_const rfl rfl (.inl rfl) rfl ?_ | refine kf_const rfl rfl (.inr rfl) rfl ?_) | (refine kf_val rfl rfl rfl ?_; apply Exists.intro; refine And.intro (fun W hW N hN => ?_) ?_; · (go_simp; (try go_bits); exact hN)))
    have HB6 := Lib.hid hR6
    clear c2 c3 hR6 q1 q2 q3 q4
    repeat (first | refine kw_seq ?_ | refine kw_region ?_ | refine kl_nil ?_ | refine kq_then ?_ | refine kq_block ?_ | refine kw_iff rfl ?_ | refine kw_exit ?_ | refine kq_then_exit ?_ | refine kq_again_exit ?_ | refine kq_block_here rfl ?_ | refine kw_skip ?_ | refine kl_ung rfl rfl ?_ | refine kl_skipg rfl rfl rfl rfl ?_ | (first | refine kl_move rfl rfl (.inl rfl) rfl rfl ?_ | refine kl_move rfl rfl (.inr rfl) rfl rfl ?_ | refine kl_const rfl rfl (.inl rfl) rfl ?_ | refine kl_const rfl rfl (.inr rfl) rfl ?_) | ((first | refine kl_step rfl rfl rfl fun K hK => ?_ | refine kl_step0 rfl rfl rfl fun K hK => ?_); go_simp; (try go_bits); (first | refine hK _ _ ?_ | refine hK _ ?_); clear hK K))
    refine kq_again (n - i1) [0, 3, 4] (by have := HI.out; omega) ?_
    exact ⟨i1, v6, by have := HI.out; omega, by have := HI.out; omega, rfl, HO6, HB6, rfl⟩
end Go.Proofs.Ytcpifcdndhhmgaa
