/- The document's Same (chapter 17). -/
import Derived.Test.YtkgenkkcgegcbaaRs
import Derived.Test.YtkgenkkcgegcbaaSesCount
namespace Go.Proofs.Ytkgenkkcgegcbaa
open Go.RowKit
attribute [local go_sem] ev_tmp ev_const ev_func ev_global lk_hit lk_miss uponK_value uponK_skip look_tmp look_const look_global look_func valP_value
set_option maxRecDepth 100000 in
set_option maxHeartbeats 1000000 in
theorem sameR_any (s s' : Ses) (D G D' G' : Value) (w : World) (hM : SesM w s D G) (hM' : SesM w s' D' G') (hd : s.data.length ≤ 1000000) (hg : s.got.length ≤ 1000000) :
    Calls Try.prog 12 #[.agg (sesV s D G).toArray, .agg (sesV s' D' G').toArray] w (SameP (decide (SameS s s')) w) := by
  obtain ⟨A1, n1, c1, rfl, hB, _, _⟩ := hM.data
  obtain ⟨A2, n2, c2, rfl, hO, _, _⟩ := hM.got
  obtain ⟨A3, n3, c3, rfl, hB', _, _⟩ := hM'.data
  obtain ⟨A4, n4, c4, rfl, hO', _, _⟩ := hM'.got
  have hm : s.got.length = n2 := by have := hO.1; simpa [bls] using this
  have hm' : s'.got.length = n4 := by have := hO'.1; simpa [bls] using this
  have hn2 : n2 ≤ 1000000 := by omega
  have HLM := Lib.hid hm
  have HLM' := Lib.hid hm'
  have HS := Lib.hid hM.sum
  have HS' := Lib.hid hM'.sum
  clear hM hM' hd hg hm hm'
  refine calls_kw Try.func12 rfl Try.ntmps12 rfl [(0, .agg (sesV s (.slice A1 n1 c1) (.slice A2 n2 c2)).toArray), (1, .agg (sesV s' (.slice A3 n3 c3) (.slice A4 n4 c4)).toArray)] rfl ?_
  refine kw_seq ?_
  refine kw_region ?_
  refine kl_boxL (Lay.start w) rfl rfl rfl rfl rfl ?_
  intro g1 w1 eg1 hb1 hL
  refine kl_boxL hL rfl rfl rfl rfl rfl ?_
  intro g2 w2 eg2 hb2 hL
  have HB := Lib.hid (hB.keep (.of_below hL.below))
  have HB' := Lib.hid (hB'.keep (.of_below hL.below))
  have HO := Lib.hid (Vs.keep hO (.of_below hL.below))
  have HO' := Lib.hid (Vs.keep hO' (.of_below hL.below))
  clear eg1 eg2 hb1 hb2 hB hB' hO hO'
  have a0 := hL.get (j := 0) 1 rfl (ses_0 s _ _)
  have a1 := hL.get (j := 1) 1 rfl (ses_1 s _ _)
  have a34 := hL.get (j := 34) 1 rfl (ses_34 s _ _ HS.out)
  have a35 := hL.get (j := 35) 1 rfl (ses_35 s _ _ HS.out)
  have b0 := hL.get (j := 0) 0 rfl (ses_0 s' _ _)
  have b1 := hL.get (j := 1) 0 rfl (ses_1 s' _ _)
  have b34 := hL.get (j := 34) 0 rfl (ses_34 s' _ _ HS'.out)
  have b35 := hL.get (j := 35) 0 rfl (ses_35 s' _ _ HS'.out)
  have hsF := Lib.hid (ses_range (hL.at_ 1 rfl))
  have hsG := Lib.hid (ses_range (hL.at_ 0 rfl))
  (first | refine kl_move rfl rfl (.inl rfl) rfl rfl ?_ | refine kl_move rfl rfl (.inr rfl) rfl rfl ?_ | refine kl_const rfl rfl (.inl rfl) rfl ?_ | refine kl_const rfl rfl (.inr rfl) rfl ?_)
  refine kl_nil ?_
  refine kq_then ?_
  by_cases h1 : s.id = s'.id
  case neg =>
    have t1 : (s.id != s'.id) = true := by rw [bne_iff_ne]; exact h1
    have hD : decide (SameS s s') = false := by rw [decide_eq_false_iff_not]; exact fun h => h1 h.1
    have HD := Lib.hid hD
    clear h1 hD
    repeat (first | refine kw_seq ?_ | refine kw_block ?_ | refine kw_skip ?_ | refine kw_region ?_ | refine kl_nil ?_ | refine kq_then ?_ | refine kq_block ?_ | refine kw_exit ?_ | refine kq_then_exit ?_ | refine kq_block_here rfl ?_ | refine kq_block_far rfl ?_ | refine kq_again_exit ?_ | refine kw_ret ?_ | refine kq_then_ret ?_ | refine kq_block_ret ?_ | refine kq_again_ret ?_ | refine kw_ift rfl ?_ | refine kw_iff rfl ?_ | refine kl_ung rfl rfl ?_ | refine kl_skipg rfl rfl rfl rfl ?_ | refine kl_skipg0 rfl rfl rfl ?_ | refine kl_load_mid 26 g1 2 _ _ hsF.out Try.underlying26 rfl (hashSize' _ HS.out) rfl rfl rfl rfl rfl ?_ | refine kl_load_mid 26 g2 2 _ _ hsG.out Try.underlying26 rfl (hashSize' _ HS'.out) rfl rfl rfl rfl rfl ?_ | (first | refine kl_move rfl rfl (.inl rfl) rfl rfl ?_ | refine kl_move rfl rfl (.inr rfl) rfl rfl ?_ | refine kl_const rfl rfl (.inl rfl) rfl ?_ | refine kl_const rfl rfl (.inr rfl) rfl ?_) | ((first | refine kl_step rfl rfl rfl fun K hK => ?_ | refine kl_step0 rfl rfl rfl fun K hK => ?_); go_simp; (try go_bits); (first | refine hK _ _ ?_ | refine hK _ ?_); clear hK K))
    exact kq_ret1 rfl rfl ⟨by rw [HD.out], hL.below⟩
  have t1 : (s.id != s'.id) = false := by rw [h1]; simp
  have X1 := Lib.hid h1
  clear h1
  by_cases h2 : s.size = s'.size
  case neg =>
    have t2 : (s.size != s'.size) = true := by rw [bne_iff_ne]; exact h2
    have hD : decide (SameS s s') = false := by rw [decide_eq_false_iff_not]; exact fun h => h2 h.2.1
    have HD := Lib.hid hD
    clear h2 hD
    repeat (first | refine kw_seq ?_ | refine kw_block ?_ | refine kw_skip ?_ | refine kw_region ?_ | refine kl_nil ?_ | refine kq_then ?_ | refine kq_block ?_ | refine kw_exit ?_ | refine kq_then_exit ?_ | refine kq_block_here rfl ?_ | refine kq_block_far rfl ?_ | refine kq_again_exit ?_ | refine kw_ret ?_ | refine kq_then_ret ?_ | refine kq_block_ret ?_ | refine kq_again_ret ?_ | refine kw_ift rfl ?_ | refine kw_iff rfl ?_ | refine kl_ung rfl rfl ?_ | refine kl_skipg rfl rfl rfl rfl ?_ | refine kl_skipg0 rfl rfl rfl ?_ | refine kl_load_mid 26 g1 2 _ _ hsF.out Try.underlying26 rfl (hashSize' _ HS.out) rfl rfl rfl rfl rfl ?_ | refine kl_load_mid 26 g2 2 _ _ hsG.out Try.underlying26 rfl (hashSize' _ HS'.out) rfl rfl rfl rfl rfl ?_ | (first | refine kl_move rfl rfl (.inl rfl) rfl rfl ?_ | refine kl_move rfl rfl (.inr rfl) rfl rfl ?_ | refine kl_const rfl rfl (.inl rfl) rfl ?_ | refine kl_const rfl rfl (.inr rfl) rfl ?_) | ((first | refine kl_step rfl rfl rfl fun K hK => ?_ | refine kl_step0 rfl rfl rfl fun K hK => ?_); go_simp; (try go_bits); (first | refine hK _ _ ?_ | refine hK _ ?_); clear hK K))
    exact kq_ret1 rfl rfl ⟨by rw [HD.out], hL.below⟩
  have t2 : (s.size != s'.size) = false := by rw [h2]; simp
  have X2 := Lib.hid h2
  clear h2
  by_cases h3 : s.sum = s'.sum
  case neg =>
    have he : ∀ W, (Op.equalIn 10000 26 (.agg (bv s.sum).toArray) (.agg (bv s'.sum).toArray)).run Try.prog W = .ok false W := fun W => by rw [eqH W _ _ HS.out HS'.out, beq_eq_false_iff_ne.2 h3]
    have hD : decide (SameS s s') = false := by rw [decide_eq_false_iff_not]; exact fun h => h3 h.2.2.1
    have HD := Lib.hid hD
    clear h3 hD
    repeat (first | refine kw_seq ?_ | refine kw_block ?_ | refine kw_skip ?_ | refine kw_region ?_ | refine kl_nil ?_ | refine kq_then ?_ | refine kq_block ?_ | refine kw_exit ?_ | refine kq_then_exit ?_ | refine kq_block_here rfl ?_ | refine kq_block_far rfl ?_ | refine kq_again_exit ?_ | refine kw_ret ?_ | refine kq_then_ret ?_ | refine kq_block_ret ?_ | refine kq_again_ret ?_ | refine kw_ift rfl ?_ | refine kw_iff rfl ?_ | refine kl_ung rfl rfl ?_ | refine kl_skipg rfl rfl rfl rfl ?_ | refine kl_skipg0 rfl rfl rfl ?_ | refine kl_load_mid 26 g1 2 _ _ hsF.out Try.underlying26 rfl (hashSize' _ HS.out) rfl rfl rfl rfl rfl ?_ | refine kl_load_mid 26 g2 2 _ _ hsG.out Try.underlying26 rfl (hashSize' _ HS'.out) rfl rfl rfl rfl rfl ?_ | (first | refine kl_move rfl rfl (.inl rfl) rfl rfl ?_ | refine kl_move rfl rfl (.inr rfl) rfl rfl ?_ | refine kl_const rfl rfl (.inl rfl) rfl ?_ | refine kl_const rfl rfl (.inr rfl) rfl ?_) | ((first | refine kl_step rfl rfl rfl fun K hK => ?_ | refine kl_step0 rfl rfl rfl fun K hK => ?_); go_simp; (try go_bits); (first | refine hK _ _ ?_ | refine hK _ ?_); clear hK K))
    exact kq_ret1 rfl rfl ⟨by rw [HD.out], hL.below⟩
  have he : ∀ W, (Op.equalIn 10000 26 (.agg (bv s.sum).toArray) (.agg (bv s'.sum).toArray)).run Try.prog W = .ok true W := fun W => by rw [eqH W _ _ HS.out HS'.out, beq_iff_eq.2 h3]
  have X3 := Lib.hid h3
  clear h3
  have hcv := convB (c := c1) HB.out
  have hcv' := convB (c := c3) HB'.out
  by_cases h4 : s.data = s'.data
  case neg =>
    have t4 : (s.data == s'.data) = false := beq_eq_false_iff_ne.2 h4
    have hD : decide (SameS s s') = false := by rw [decide_eq_false_iff_not]; exact fun h => h4 h.2.2.2.1
    have HD := Lib.hid hD
    clear h4 hD
    repeat (first | refine kw_seq ?_ | refine kw_block ?_ | refine kw_skip ?_ | refine kw_region ?_ | refine kl_nil ?_ | refine kq_then ?_ | refine kq_block ?_ | refine kw_exit ?_ | refine kq_then_exit ?_ | refine kq_block_here rfl ?_ | refine kq_block_far rfl ?_ | refine kq_again_exit ?_ | refine kw_ret ?_ | refine kq_then_ret ?_ | refine kq_block_ret ?_ | refine kq_again_ret ?_ | refine kw_ift rfl ?_ | refine kw_iff rfl ?_ | refine kl_ung rfl rfl ?_ | refine kl_skipg rfl rfl rfl rfl ?_ | refine kl_skipg0 rfl rfl rfl ?_ | refine kl_load_mid 26 g1 2 _ _ hsF.out Try.underlying26 rfl (hashSize' _ HS.out) rfl rfl rfl rfl rfl ?_ | refine kl_load_mid 26 g2 2 _ _ hsG.out Try.underlying26 rfl (hashSize' _ HS'.out) rfl rfl rfl rfl rfl ?_ | (first | refine kl_move rfl rfl (.inl rfl) rfl rfl ?_ | refine kl_move rfl rfl (.inr rfl) rfl rfl ?_ | refine kl_const rfl rfl (.inl rfl) rfl ?_ | refine kl_const rfl rfl (.inr rfl) rfl ?_) | ((first | refine kl_step rfl rfl rfl fun K hK => ?_ | refine kl_step0 rfl rfl rfl fun K hK => ?_); go_simp; (try go_bits); (first | refine hK _ _ ?_ | refine hK _ ?_); clear hK K))
    exact kq_ret1 rfl rfl ⟨by rw [HD.out], hL.below⟩
  have t4 : (s.data == s'.data) = true := beq_iff_eq.2 h4
  have X4 := Lib.hid h4
  clear h4
  by_cases h5 : n2 = n4
  case neg =>
    have t5 : ((n2 : Int) != (n4 : Int)) = true := by rw [bne_iff_ne]; omega
    have hD : decide (SameS s s') = false := by rw [decide_eq_false_iff_not]; exact fun h => h5 (by rw [← HLM.out, ← HLM'.out, h.2.2.2.2])
    have HD := Lib.hid hD
    clear h5 hD
    repeat (first | refine kw_seq ?_ | refine kw_block ?_ | refine kw_skip ?_ | refine kw_region ?_ | refine kl_nil ?_ | refine kq_then ?_ | refine kq_block ?_ | refine kw_exit ?_ | refine kq_then_exit ?_ | refine kq_block_here rfl ?_ | refine kq_block_far rfl ?_ | refine kq_again_exit ?_ | refine kw_ret ?_ | refine kq_then_ret ?_ | refine kq_block_ret ?_ | refine kq_again_ret ?_ | refine kw_ift rfl ?_ | refine kw_iff rfl ?_ | refine kl_ung rfl rfl ?_ | refine kl_skipg rfl rfl rfl rfl ?_ | refine kl_skipg0 rfl rfl rfl ?_ | refine kl_load_mid 26 g1 2 _ _ hsF.out Try.underlying26 rfl (hashSize' _ HS.out) rfl rfl rfl rfl rfl ?_ | refine kl_load_mid 26 g2 2 _ _ hsG.out Try.underlying26 rfl (hashSize' _ HS'.out) rfl rfl rfl rfl rfl ?_ | (first | refine kl_move rfl rfl (.inl rfl) rfl rfl ?_ | refine kl_move rfl rfl (.inr rfl) rfl rfl ?_ | refine kl_const rfl rfl (.inl rfl) rfl ?_ | refine kl_const rfl rfl (.inr rfl) rfl ?_) | ((first | refine kl_step rfl rfl rfl fun K hK => ?_ | refine kl_step0 rfl rfl rfl fun K hK => ?_); go_simp; (try go_bits); (first | refine hK _ _ ?_ | refine hK _ ?_); clear hK K))
    exact kq_ret1 rfl rfl ⟨by rw [HD.out], hL.below⟩
  subst h5
  have t5 : ((n2 : Int) != (n2 : Int)) = false := by simp
  repeat (first | refine kw_seq ?_ | refine kw_skip ?_ | refine kw_region ?_ | refine kl_nil ?_ | refine kq_then ?_ | refine kq_block ?_ | refine kw_exit ?_ | refine kq_then_exit ?_ | refine kq_block_here rfl ?_ | refine kq_block_far rfl ?_ | refine kq_again_exit ?_ | refine kw_ret ?_ | refine kq_then_ret ?_ | refine kq_block_ret ?_ | refine kq_again_ret ?_ | refine kw_ift rfl ?_ | refine kw_iff rfl ?_ | refine kl_ung rfl rfl ?_ | refine kl_skipg rfl rfl rfl rfl ?_ | refine kl_skipg0 rfl rfl rfl ?_ | refine kl_load_mid 26 g1 2 _ _ hsF.out Try.underlying26 rfl (hashSize' _ HS.out) rfl rfl rfl rfl rfl ?_ | refine kl_load_mid 26 g2 2 _ _ hsG.out Try.underlying26 rfl (hashSize' _ HS'.out) rfl rfl rfl rfl rfl ?_ | (first | refine kl_move rfl rfl (.inl rfl) rfl rfl ?_ | refine kl_move rfl rfl (.inr rfl) rfl rfl ?_ | refine kl_const rfl rfl (.inl rfl) rfl ?_ | refine kl_const rfl rfl (.inr rfl) rfl ?_) | ((first | refine kl_step rfl rfl rfl fun K hK => ?_ | refine kl_step0 rfl rfl rfl fun K hK => ?_); go_simp; (try go_bits); (first | refine hK _ _ ?_ | refine hK _ ?_); clear hK K))
  clear t1 t2 he hcv hcv' t4 t5 a0 a1 a34 b0 b1 b34 hsF hsG HB HB'
  refine KW.less [2, 3, 5] ?_
  simp only [nrm, lk, Nat.reduceBEq, cond_true, cond_false]
  refine kw_block ?_
  refine kw_loop (fun m L wr => ∃ k, k ≤ n2 ∧ m = n2 - k ∧ Below w2.heap.size w2 wr ∧ Hid (s.got.take k = s'.got.take k) ∧ L = [(2, .pointer (some ⟨g1, 0, none⟩)), (3, .pointer (some ⟨g2, 0, none⟩)), (5, .int .i64 (k : Int))]) ⟨0, by omega, rfl, Below.refl _ _, by show _ = _; simp, rfl⟩ ?_
  rintro m L wr ⟨k, hk, rfl, hb, htk, rfl⟩
  have hL3 := hL.next hb
  have q35 := fun W (h : Below wr.heap.size wr W) => Keeps.of_below h _ _ (Keeps.of_below hb _ _ a35)
  have r35 := fun W (h : Below wr.heap.size wr W) => Keeps.of_below h _ _ (Keeps.of_below hb _ _ b35)
  have q0 := q35 wr (Below.refl _ _)
  by_cases hlt : k < n2
  · have hk1 : (k : Int) < n2 := by omega
    have hk0 : (0 : Int) ≤ k := by omega
    have t1 : decide ((k : Int) < (n2 : Int)) = true := by rw [decide_eq_true_eq]; omega
    have hg1 : k < s.got.length := by rw [HLM.out]; exact hlt
    have hg2 : k < s'.got.length := by rw [HLM'.out]; exact hlt
    obtain ⟨x, hx⟩ : ∃ x, s.got[k]? = some x := ⟨_, List.getElem?_eq_getElem hg1⟩
    obtain ⟨y, hy⟩ : ∃ y, s'.got[k]? = some y := ⟨_, List.getElem?_eq_getElem hg2⟩
    obtain ⟨b, o, ub, eb, hcb, _, hub⟩ := Vs.next HO.out hlt
    obtain ⟨b', o', ub', eb', hcb', _, hub'⟩ := Vs.next HO'.out hlt
    have e1 : ub = .bool x := by have := hub.out; simp only [bls, List.getElem?_map, hx, Option.map_some, Option.some.injEq] at this; exact this.symm
    have e2 : ub' = .bool y := by have := hub'.out; simp only [bls, List.getElem?_map, hy, Option.map_some, Option.some.injEq] at this; exact this.symm
    subst eb; subst eb'; subst e1; subst e2
    have c1 := fun W (h : Below wr.heap.size wr W) => Keeps.of_below h _ _ (Keeps.of_below hb _ _ hcb)
    have c2 := fun W (h : Below wr.heap.size wr W) => Keeps.of_below h _ _ (Keeps.of_below hb _ _ hcb')
    have HX := Lib.hid hx
    have HY := Lib.hid hy
    have hs1 := Lib.hid (take_next hg1)
    have hs2 := Lib.hid (take_next hg2)
    have gx : s.got[k] = x := (List.getElem?_eq_some_iff.1 hx).2
    have gy : s'.got[k] = y := (List.getElem?_eq_some_iff.1 hy).2
    rw [gx] at hs1
    rw [gy] at hs2
    clear hcb hcb' hub hub' hx hy hg1 hg2 gx gy
    repeat (first | refine kw_seq ?_ | refine kw_region ?_ | refine kl_nil ?_ | refine kq_then ?_ | refine kw_ift rfl ?_ | refine kw_skip ?_ | (first | refine kl_move rfl rfl (.inl rfl) rfl rfl ?_ | refine kl_move rfl rfl (.inr rfl) rfl rfl ?_ | refine kl_const rfl rfl (.inl rfl) rfl ?_ | refine kl_const rfl rfl (.inr rfl) rfl ?_) | ((first | refine kl_step rfl rfl rfl fun K hK => ?_ | refine kl_step0 rfl rfl rfl fun K hK => ?_); go_simp; (try go_bits); (first | refine hK _ _ ?_ | refine hK _ ?_); clear hK K))
    refine kw_block ?_
    refine kw_seq ?_
    refine kw_region_f (Below wr.heap.size wr) [true, true, true, true, true, true, true, true, true, true, true] (by kernel_rfl) (by kernel_rfl) ((Below.refl _ wr).drew) ?_
    repeat (first | refine kf_nil ?_ | refine kf_ung rfl rfl ?_ | refine kf_skipg rfl rfl rfl rfl ?_ | (first | refine kf_move rfl rfl (.inl rfl) rfl rfl ?_ | refine kf_move rfl rfl (.inr rfl) rfl rfl ?_ | refine kf_const rfl rfl (.inl rfl) rfl ?_ | refine kf_const rfl rfl (.inr rfl) rfl ?_) | (refine kf_val rfl rfl rfl ?_; apply Exists.intro; refine And.intro (fun W hW N hN => ?_) ?_; · (go_simp; (try go_bits); exact hN)))
    refine kq_then ?_
    clear c1 c2 q35 r35 q0
    by_cases hpx : x = y
    · have hn1 : Hid (s.got.take (k + 1) = s'.got.take (k + 1)) := by
        show _ = _
        rw [hs1.out, hs2.out, htk.out, hpx]
      have e1 : (x != y) = false := by rw [hpx]; simp
      have e2 : (x == y) = true := by rw [hpx]; simp
      obtain ⟨nk, hnk⟩ : ∃ nk, k + 1 = nk := ⟨_, rfl⟩
      have i3 : (k : Int) + 1 = (nk : Int) := by omega
      have i4 : IntKind.i64.wrap ((k : Int) + 1) = (nk : Int) := by rw [i3, IntWalk.i64_in _ (by omega)]
      rw [hnk] at hn1
      have HNK := Lib.hid hnk
      clear hnk hpx
      simp only [e1, e2, Bool.not_true]
      repeat (first | refine kw_seq ?_ | refine kw_block ?_ | refine kw_region ?_ | refine kl_nil ?_ | refine kq_then ?_ | refine kq_block ?_ | refine kw_ift rfl ?_ | refine kw_iff rfl ?_ | refine kw_skip ?_ | (first | refine kl_move rfl rfl (.inl rfl) rfl rfl ?_ | refine kl_move rfl rfl (.inr rfl) rfl rfl ?_ | refine kl_const rfl rfl (.inl rfl) rfl ?_ | refine kl_const rfl rfl (.inr rfl) rfl ?_) | ((first | refine kl_step rfl rfl rfl fun K hK => ?_ | refine kl_step0 rfl rfl rfl fun K hK => ?_); go_simp; (try go_bits); (first | refine hK _ _ ?_ | refine hK _ ?_); clear hK K))
      have hnk := HNK.out
      refine kq_again (n2 - nk) [2, 3, 5] (by omega) ?_
      exact ⟨nk, by omega, rfl, hb.drew, hn1, rfl⟩
    · have hD : decide (SameS s s') = false := by
        rw [decide_eq_false_iff_not]
        intro h
        have h5 := h.2.2.2.2
        have := HX.out
        rw [h5, HY.out] at this
        injection this with this
        exact hpx this.symm
      have HD := Lib.hid hD
      have e1 : (x != y) = true := by rw [bne_iff_ne]; exact hpx
      have e2 : (x == y) = false := beq_eq_false_iff_ne.2 hpx
      clear hD hpx
      simp only [e1, e2, Bool.not_false]
      repeat (first | refine kw_seq ?_ | refine kw_block ?_ | refine kw_skip ?_ | refine kw_region ?_ | refine kl_nil ?_ | refine kq_then ?_ | refine kq_block ?_ | refine kw_exit ?_ | refine kq_then_exit ?_ | refine kq_block_here rfl ?_ | refine kq_block_far rfl ?_ | refine kq_again_exit ?_ | refine kw_ret ?_ | refine kq_then_ret ?_ | refine kq_block_ret ?_ | refine kq_again_ret ?_ | refine kw_ift rfl ?_ | refine kw_iff rfl ?_ | refine kl_ung rfl rfl ?_ | refine kl_skipg rfl rfl rfl rfl ?_ | refine kl_skipg0 rfl rfl rfl ?_ | (first | refine kl_move rfl rfl (.inl rfl) rfl rfl ?_ | refine kl_move rfl rfl (.inr rfl) rfl rfl ?_ | refine kl_const rfl rfl (.inl rfl) rfl ?_ | refine kl_const rfl rfl (.inr rfl) rfl ?_) | ((first | refine kl_step rfl rfl rfl fun K hK => ?_ | refine kl_step0 rfl rfl rfl fun K hK => ?_); go_simp; (try go_bits); (first | refine hK _ _ ?_ | refine hK _ ?_); clear hK K))
      exact kq_ret1 rfl rfl ⟨by rw [HD.out], (below_two hL.below hb).drew⟩
  · obtain rfl : k = n2 := by omega
    have t1 : decide ((k : Int) < (k : Int)) = false := by simp
    have hD : decide (SameS s s') = true := by
      rw [decide_eq_true_eq]
      refine ⟨X1.out, X2.out, X3.out, X4.out, ?_⟩
      have := htk.out
      rwa [List.take_of_length_le (by rw [HLM.out]; exact Nat.le_refl _), List.take_of_length_le (by rw [HLM'.out]; exact Nat.le_refl _)] at this
    have HD := Lib.hid hD
    clear hD hlt
    repeat (first | refine kw_seq ?_ | refine kw_block ?_ | refine kw_skip ?_ | refine kw_region ?_ | refine kl_nil ?_ | refine kq_then ?_ | refine kq_block ?_ | refine kw_exit ?_ | refine kq_then_exit ?_ | refine kq_block_here rfl ?_ | refine kq_block_far rfl ?_ | refine kq_again_exit ?_ | refine kw_ret ?_ | refine kq_then_ret ?_ | refine kq_block_ret ?_ | refine kq_again_ret ?_ | refine kw_ift rfl ?_ | refine kw_iff rfl ?_ | refine kl_ung rfl rfl ?_ | refine kl_skipg rfl rfl rfl rfl ?_ | refine kl_skipg0 rfl rfl rfl ?_ | (first | refine kl_move rfl rfl (.inl rfl) rfl rfl ?_ | refine kl_move rfl rfl (.inr rfl) rfl rfl ?_ | refine kl_const rfl rfl (.inl rfl) rfl ?_ | refine kl_const rfl rfl (.inr rfl) rfl ?_) | ((first | refine kl_step rfl rfl rfl fun K hK => ?_ | refine kl_step0 rfl rfl rfl fun K hK => ?_); go_simp; (try go_bits); (first | refine hK _ _ ?_ | refine hK _ ?_); clear hK K))
    exact kq_ret1 rfl rfl ⟨by rw [HD.out], below_two hL.below hb⟩
end Go.Proofs.Ytkgenkkcgegcbaa
