/- session.Chunk: its first loop. -/
import Derived.Test.YtonjpjiphcbemaaSesChunk
namespace Go.Proofs.Ytonjpjiphcbemaa
open Go.RowKit
attribute [local go_sem] ev_tmp ev_const ev_func ev_global lk_hit lk_miss uponK_value uponK_skip look_tmp look_const look_global look_func
theorem clash_yes {s : Ses} {f : Frm} {a k : Nat} {x y : UInt8} (hfa : f.at_ = a) (hk : k < f.data.length) (hx : f.data[k]? = some x) (hg : s.got[a + k]? = some true) (hy : s.data[a + k]? = some y) (hne : y ≠ x) : clash s f = true := by
  refine List.any_eq_true.2 ⟨k, List.mem_range.2 hk, ?_⟩
  have ha : f.at_.toNat = a := by omega
  rw [ha, List.getD_eq_getElem?_getD, hg, List.getD_eq_getElem?_getD, hy, List.getD_eq_getElem?_getD, hx]
  simpa using hne
def noClash (s : Ses) (f : Frm) (a k : Nat) : Prop := ∀ i, i < k → ¬ (s.got.getD (a + i) false = true ∧ s.data.getD (a + i) 0 ≠ f.data.getD i 0)
theorem clash_no {s : Ses} {f : Frm} {a : Nat} (hfa : f.at_ = a) (h : noClash s f a f.data.length) : clash s f = false := by
  have ha : f.at_.toNat = a := by omega
  refine List.any_eq_false.2 fun i hi => ?_
  rw [ha]
  have := h i (List.mem_range.1 hi)
  simpa using this
set_option maxRecDepth 100000 in
set_option maxHeartbeats 2000000 in
theorem chunk_loop1 {Q : Exit → Act → World → Prop} {w wr : World} {B n m a g2 g3 g4 gd gg cd cg cf : Nat} {s : Ses} {f : Frm} {DF : Value} {Af : Option Addr} (hDF : DF = .slice Af m cf) (hnd : n ≤ cd) (hcd : cd ≤ 9223372036854775807) (hng : n ≤ cg) (hcg : cg ≤ 9223372036854775807) (hmc : m ≤ cf) (hcf : cf ≤ 9223372036854775807)
    (hn : n ≤ 1000000) (ham : a + m ≤ n) (hfa : f.at_ = a) (HS : Hid (s.sum.length = 32)) (HF : Hid (f.sum.length = 32)) (HD : Hid (s.data.length = n)) (HG : Hid (s.got.length = n)) (HM : Hid (f.data.length = m))
    (h : ChM w B n m s f g2 g3 g4 gd gg cd cg DF Af cf s.data s.got wr)
    (hR : clash s f = true → KQ Q .ret 112 [(4, .pointer (some ⟨g4, 0, none⟩)), (5, .int .i64 10)] (wr.setRow g4 (sesV s (.slice (some ⟨gd, 0, none⟩) n cd) (.slice (some ⟨gg, 0, none⟩) n cg)).toArray))
    (hQ : clash s f = false → KQ Q .normal 112 [(2, .pointer (some ⟨g2, 0, none⟩)), (3, .pointer (some ⟨g3, 0, none⟩)), (4, .pointer (some ⟨g4, 0, none⟩))] wr) :
    KW Try.prog (blockOf Try.f15 1) Q 112 [(2, .pointer (some ⟨g2, 0, none⟩)), (3, .pointer (some ⟨g3, 0, none⟩)), (4, .pointer (some ⟨g4, 0, none⟩)), (58, .slice Af m cf), (59, .int .i64 (m : Int)), (60, .int .i64 0)] wr := by
  conv => arg 2; whnf
  have HQ := Lib.hid hQ
  have HR := Lib.hid hR
  have H := Lib.hid h
  clear hQ hR
  refine kw_block ?_
  refine kw_loop (fun mu L wr' => ∃ k, k ≤ m ∧ mu = m - k ∧ wr' = wr ∧ noClash s f a k ∧ L = [(2, .pointer (some ⟨g2, 0, none⟩)), (3, .pointer (some ⟨g3, 0, none⟩)), (4, .pointer (some ⟨g4, 0, none⟩)), (58, .slice Af m cf), (59, .int .i64 (m : Int)), (60, .int .i64 (k : Int))]) ⟨0, by omega, rfl, rfl, fun i hi => by omega, rfl⟩ ?_
  rintro mu L wr' ⟨k, hk, rfl, rfl, hno, rfl⟩
  have HNO := Lib.hid hno
  clear hno
  by_cases hlt : k < m
  case neg =>
    obtain rfl : k = m := by omega
    have hc := clash_no hfa (by rw [HM.out]; exact HNO.out)
    have HC := Lib.hid hc
    clear hc h
    repeat (first | refine kw_seq ?_ | refine kw_block ?_ | refine kw_skip ?_ | refine kw_region ?_ | refine kl_nil ?_ | refine kq_then ?_ | refine kq_block ?_ | refine kw_exit ?_ | refine kq_then_exit ?_ | refine kq_block_here rfl ?_ | refine kq_block_far rfl ?_ | refine kq_again_exit ?_ | refine kw_ret ?_ | refine kq_then_ret ?_ | refine kq_block_ret ?_ | refine kq_again_ret ?_ | refine kw_ift rfl ?_ | refine kw_iff rfl ?_ | refine kl_ung rfl rfl ?_ | refine kl_skipg rfl rfl rfl rfl ?_ | refine kl_skipg0 rfl rfl rfl ?_ | (first | refine kl_move rfl rfl (.inl rfl) rfl rfl ?_ | refine kl_move rfl rfl (.inr rfl) rfl rfl ?_ | refine kl_const rfl rfl (.inl rfl) rfl ?_ | refine kl_const rfl rfl (.inr rfl) rfl ?_) | ((first | refine kl_step rfl rfl rfl fun K hK => ?_ | refine kl_step0 rfl rfl rfl fun K hK => ?_); go_simp; (try go_bits); (first | refine hK _ _ ?_ | refine hK _ ?_); clear hK K))
    refine KQ.less [2, 3, 4] ?_
    simp only [nrm, lk, Nat.reduceBEq, cond_true, cond_false]
    exact HQ.out HC.out
  have hk1 : (k : Int) < m := by omega
  have hk0 : (0 : Int) ≤ k := by omega
  obtain ⟨b, o, x, rfl, hcell, _, hgx⟩ := h.bs.next hlt
  obtain ⟨q, hq⟩ : ∃ q, a + k = q := ⟨_, rfl⟩
  have q0 : (0 : Int) ≤ a := by omega
  have e1 : IntKind.i64.wrap ((a : Int) + k) = q := by rw [IntWalk.i64_in _ (by omega)]; omega
  have e2 : (a : Int) + k = q := by omega
  have hqn : q < n := by omega
  have q1 : (q : Int) < n := by omega
  have q2 : (0 : Int) ≤ q := by omega
  obtain ⟨y, hy⟩ : ∃ y, s.data[q]? = some y := ⟨_, List.getElem?_eq_getElem (by rw [HD.out]; exact hqn)⟩
  obtain ⟨z, hz⟩ : ∃ z, s.got[q]? = some z := ⟨_, List.getElem?_eq_getElem (by rw [HG.out]; exact hqn)⟩
  have cy : wr'.cell? ⟨gd, q, none⟩ = some (.int .u8 (y.toNat : Int)) := own_at h.data (by rw [bv_get _ _ (by rw [HD.out]; exact hqn)]; rw [List.getElem?_eq_getElem (by rw [HD.out]; exact hqn)] at hy; injection hy with hy; rw [hy])
  have cz : wr'.cell? ⟨gg, q, none⟩ = some (.bool z) := own_at h.got (by rw [bls_get _ _ (by rw [HG.out]; exact hqn)]; rw [List.getElem?_eq_getElem (by rw [HG.out]; exact hqn)] at hz; injection hz with hz; rw [hz])
  have k34 := ses_cell h.h2 (ses_34 s _ _ HS.out)
  have k35 := ses_cell h.h2 (ses_35 s _ _ HS.out)
  have k3 := frm_cell h.h3 (frm_3 f _)
  rw [hfa] at k3
  have HY := Lib.hid hy
  have HZ := Lib.hid hz
  have n1 : (n : Int) ≤ cd := by omega
  have n2 : (n : Int) ≤ cg := by omega
  have H2 := Lib.hid h.h2
  have H4 := Lib.hid h.h4
  have HQE := Lib.hid hq
  clear hy hz hq h
  by_cases hcl : z = true ∧ y ≠ x
  · obtain ⟨rfl, hne⟩ := hcl
    have d1 : ((y.toNat : Int) != x.toNat) = true := by rw [bne_iff_ne]; intro h; exact hne (UInt8.toNat_inj.1 (by omega))
    have hc : clash s f = true := clash_yes hfa (by rw [HM.out]; exact hlt) hgx.out (by rw [HQE.out]; exact HZ.out) (by rw [HQE.out]; exact HY.out) hne
    have HC := Lib.hid hc
    clear hne hc
    repeat (first | refine kw_seq ?_ | refine kw_block ?_ | refine kw_skip ?_ | refine kw_region ?_ | refine kl_nil ?_ | refine kq_then ?_ | refine kq_block ?_ | refine kw_exit ?_ | refine kq_then_exit ?_ | refine kq_block_here rfl ?_ | refine kq_block_far rfl ?_ | refine kq_again_exit ?_ | refine kw_ret ?_ | refine kq_then_ret ?_ | refine kq_block_ret ?_ | refine kq_again_ret ?_ | refine kw_ift rfl ?_ | refine kw_iff rfl ?_ | refine kl_ung rfl rfl ?_ | refine kl_skipg rfl rfl rfl rfl ?_ | refine kl_skipg0 rfl rfl rfl ?_ | (first | refine kl_move rfl rfl (.inl rfl) rfl rfl ?_ | refine kl_move rfl rfl (.inr rfl) rfl rfl ?_ | refine kl_const rfl rfl (.inl rfl) rfl ?_ | refine kl_const rfl rfl (.inr rfl) rfl ?_) | ((first | refine kl_step rfl rfl rfl fun K hK => ?_ | refine kl_step0 rfl rfl rfl fun K hK => ?_); go_simp; (try go_bits); (first | refine hK _ _ ?_ | refine hK _ ?_); clear hK K))
    refine kl_load_row 30 g2 _ _ _ _ H2.out Try.underlying30 rfl (infoS s _ _ HS.out) rfl rfl rfl rfl rfl ?_
    refine kl_store_row 30 g4 _ _ zSes.toArray H4.out (infoS s _ _ HS.out) (sizeZ s _ _ HS.out) (sesV_one _ _ _ rfl rfl) rfl rfl rfl rfl rfl ?_
    repeat (first | refine kw_seq ?_ | refine kw_block ?_ | refine kw_skip ?_ | refine kw_region ?_ | refine kl_nil ?_ | refine kq_then ?_ | refine kq_block ?_ | refine kw_exit ?_ | refine kq_then_exit ?_ | refine kq_block_here rfl ?_ | refine kq_block_far rfl ?_ | refine kq_again_exit ?_ | refine kw_ret ?_ | refine kq_then_ret ?_ | refine kq_block_ret ?_ | refine kq_again_ret ?_ | refine kw_ift rfl ?_ | refine kw_iff rfl ?_ | refine kl_ung rfl rfl ?_ | refine kl_skipg rfl rfl rfl rfl ?_ | refine kl_skipg0 rfl rfl rfl ?_ | (first | refine kl_move rfl rfl (.inl rfl) rfl rfl ?_ | refine kl_move rfl rfl (.inr rfl) rfl rfl ?_ | refine kl_const rfl rfl (.inl rfl) rfl ?_ | refine kl_const rfl rfl (.inr rfl) rfl ?_) | ((first | refine kl_step rfl rfl rfl fun K hK => ?_ | refine kl_step0 rfl rfl rfl fun K hK => ?_); go_simp; (try go_bits); (first | refine hK _ _ ?_ | refine hK _ ?_); clear hK K))
    refine KQ.less [4, 5] ?_
    simp only [nrm, lk, Nat.reduceBEq, cond_true, cond_false]
    exact HR.out HC.out
  · have hno : noClash s f a (k + 1) := by
      intro i hi
      rcases Nat.lt_or_ge i k with h | h
      · exact HNO.out i h
      · obtain rfl : i = k := by omega
        rw [HQE.out, List.getD_eq_getElem?_getD, HZ.out, List.getD_eq_getElem?_getD, HY.out, List.getD_eq_getElem?_getD, hgx.out]
        exact hcl
    have HN2 := Lib.hid hno
    clear hno
    have hcase : z = false ∨ (z = true ∧ y = x) := by
      cases z
      · exact .inl rfl
      · refine .inr ⟨rfl, Classical.byContradiction fun h => hcl ⟨rfl, h⟩⟩
    clear hcl
    rcases hcase with rfl | ⟨rfl, rfl⟩
    all_goals
      repeat (first | refine kw_seq ?_ | refine kw_block ?_ | refine kw_skip ?_ | refine kw_region ?_ | refine kl_nil ?_ | refine kq_then ?_ | refine kq_block ?_ | refine kw_exit ?_ | refine kq_then_exit ?_ | refine kq_block_here rfl ?_ | refine kq_block_far rfl ?_ | refine kq_again_exit ?_ | refine kw_ret ?_ | refine kq_then_ret ?_ | refine kq_block_ret ?_ | refine kq_again_ret ?_ | refine kw_ift rfl ?_ | refine kw_iff rfl ?_ | refine kl_ung rfl rfl ?_ | refine kl_skipg rfl rfl rfl rfl ?_ | refine kl_skipg0 rfl rfl rfl ?_ | (first | refine kl_move rfl rfl (.inl rfl) rfl rfl ?_ | refine kl_move rfl rfl (.inr rfl) rfl rfl ?_ | refine kl_const rfl rfl (.inl rfl) rfl ?_ | refine kl_const rfl rfl (.inr rfl) rfl ?_) | ((first | refine kl_step rfl rfl rfl fun K hK => ?_ | refine kl_step0 rfl rfl rfl fun K hK => ?_); go_simp; (try go_bits); (first | refine hK _ _ ?_ | refine hK _ ?_); clear hK K))
      refine kq_again (m - (k + 1)) [2, 3, 4, 58, 59, 60] (by omega) ?_
      simp only [nrm, lk, Nat.reduceBEq, cond_true, cond_false]
      exact ⟨k + 1, by omega, rfl, trivial, HN2.out, by congr 1⟩
end Go.Proofs.Ytonjpjiphcbemaa
