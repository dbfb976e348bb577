/- SessionFrames: a round. SessionFrames: the walk. -/
import Derived.Test.YtfhlnadhcalkkaaSesFrm5
import Derived.Test.YtfhlnadhcalkkaaSesBytesR
import Derived.Test.YtfhlnadhcalkkaaSeal
namespace Go.Proofs.Ytfhlnadhcalkkaa
open Go.RowKit
attribute [local go_sem] ev_tmp ev_const ev_func ev_global lk_hit lk_miss uponK_value uponK_skip look_tmp look_const look_global look_func valP_value
theorem nf_data (f : Frm) : (nf f).data.length ≤ f.data.length := by
  unfold nf
  split
  · exact Nat.zero_le _
  · split
    · exact Nat.le_refl _
    · exact Nat.zero_le _
theorem rows_back (F : Frm) (v : Bool) (h : parseF (frameBytes F) = (nf F, 0)) : parseF (rowS v (if v then (frameBytes F).drop 6 else frameBytes F)) = (nf F, 0) := by
  cases v
  · simpa [rowS] using h
  · have e : (frameBytes F).drop 6 = frameBody F := by unfold frameBytes; have := sealed_drop6 (frameBody F) []; simpa using this
    simp only [rowS, if_true]
    rw [e]
    exact h
set_option maxRecDepth 100000 in
set_option maxHeartbeats 2000000 in
theorem frames_round {w wr : World} {g6 n1 c1 n2 c2 n4 c4 k : Nat} {A1 A2 A4  : Option Addr} {z : Int} {v : Bool} {zs : List Int} {ys raw : List UInt8} {F : Frm} {D : Value} {Q : Exit → Act → World → Prop} (hk : k ≤ 1) (hL : Lay w wr [(g6, (frmV F D).toArray, 29)]) (hM : FrmM wr F D) (hd : F.data.length ≤ 120)
  (hap : 0 < F.data.length → ∀ b o n c, D = .slice (some ⟨b, o, none⟩) n c → b ≠ g6) (hA1 : Vs w A1 n1 (zs.map (Value.int .i64))) (hn1 : n1 ≤ c1) (hc1 : c1 ≤ 140737488351232) (hA2 : Bs w A2 n2 ys) (hn2 : n2 ≤ c2) (hc2 : c2 ≤ 140737488351232) (hA4 : Bs w A4 n4 raw) (hn4 : n4 ≤ c4) (hc4 : c4 ≤ 9223372036854775807) (h200 : n4 ≤ 200) (hz : -9223372036854775808 ≤ z ∧ z ≤ 9223372036854775807)
  (hgd : k = 1 → (1 ≤ F.kind ∧ F.kind ≤ 5) ∧ F.data.length ≤ 64)
  (hQ : ∀ w' F' D', Lay w w' [(g6, (frmV F' D').toArray, 29)] → FrmM w' F' D' → F' = goodF F → (0 < F'.data.length → ∀ b o n c, D' = .slice (some ⟨b, o, none⟩) n c → b ≠ g6) → KQ Q .normal 177 [(1, .slice A1 n1 c1), (2, .slice A2 n2 c2), (3, .int .i64 z), (4, .slice A4 n4 c4), (5, .bool v), (6, .pointer (some ⟨g6, 0, none⟩)), (13, .int .i64 (k : Int))] w') :
    KW Try.prog (blockOf Try.f4 1) Q 177 [(1, .slice A1 n1 c1), (2, .slice A2 n2 c2), (3, .int .i64 z), (4, .slice A4 n4 c4), (5, .bool v), (6, .pointer (some ⟨g6, 0, none⟩)), (13, .int .i64 (k : Int))] wr := by
  conv => arg 2; whnf
  refine kw_block ?_
  have HQ := Lib.hid hQ
  have HM := Lib.hid hM
  have HAP := Lib.hid hap
  have HA1 := Lib.hid hA1
  have HA2 := Lib.hid hA2
  have HA4 := Lib.hid hA4
  have HFS := Lib.hid hM.sum
  have HL := Lib.hid hL
  have HGD := Lib.hid hgd
  clear hQ hM hap hA1 hA2 hA4 hL hgd
  repeat (first | refine kw_seq ?_ | refine kw_region ?_ | refine kl_getL HL.out 0 rfl Try.underlying29 rfl (infoF _ _ HFS.out) rfl rfl rfl rfl rfl ?_ | (first | refine kl_move rfl rfl (.inl rfl) rfl rfl ?_ | refine kl_move rfl rfl (.inr rfl) rfl rfl ?_ | refine kl_const rfl rfl (.inl rfl) rfl ?_ | refine kl_const rfl rfl (.inr rfl) rfl ?_) | ((first | refine kl_step rfl rfl rfl fun K hK => ?_ | refine kl_step0 rfl rfl rfl fun K hK => ?_); go_simp; (try go_bits); (first | refine hK _ _ ?_ | refine hK _ ?_); clear hK K))
  refine kl_call rfl rfl rfl Try.func24 rfl (by kernel_rfl) rfl ?_
  refine Calls.mono (bytes17_any F D wr HM.out (by omega)) ?_
  rintro e w2 ⟨v2, rfl, hown, hb⟩
  have HL := Lib.hid (HL.out.next hb)
  have HM := Lib.hid (HM.out.keep (.of_below hb))
  obtain ⟨A14, c14, rfl, hB14, hc14, hc14'⟩ := own_B hown
  have hlb := frameBody_len F HFS.out (by omega)
  have HLB : Hid (6 ≤ (frameBytes F).length ∧ (frameBytes F).length ≤ 60040) := Lib.hid (by unfold frameBytes; rw [length_sealed]; omega)
  clear hb hown hlb
  refine ⟨_, rfl, ?_⟩
  repeat (first | (first | refine kl_move rfl rfl (.inl rfl) rfl rfl ?_ | refine kl_move rfl rfl (.inr rfl) rfl rfl ?_ | refine kl_const rfl rfl (.inl rfl) rfl ?_ | refine kl_const rfl rfl (.inr rfl) rfl ?_) | ((first | refine kl_step rfl rfl rfl fun K hK => ?_ | refine kl_step0 rfl rfl rfl fun K hK => ?_); go_simp; (try go_bits); (first | refine hK _ _ ?_ | refine hK _ ?_); clear hK K))
  refine kl_nil ?_
  refine kq_then ?_
  obtain ⟨bs, hbs⟩ : ∃ bs, frameBytes F = bs := ⟨_, rfl⟩
  have hrb := rows_back F v
  rw [hbs] at hB14 HLB hrb hc14 ⊢
  have HRB := Lib.hid hrb
  have HBS := Lib.hid hbs
  clear hrb hbs
  have HL2 := Lib.hid hB14.len
  obtain ⟨N, hN⟩ : ∃ N, bs.length = N := ⟨_, rfl⟩
  rw [hN] at hB14 HLB hc14 ⊢
  have HN := Lib.hid hN
  clear hN
  have HB14 := Lib.hid hB14
  have hcv := fun W (h : Keeps w2 W) => convB (c := c14) (HB14.out.keep h)
  have r6 : ∀ W, Keeps w2 W → W.rangeAt g6 0 (frmV F D) := fun W h => rangeAt_keep (range_block (HL.out.at_ 0 rfl)) h
  have R6 := Lib.hid r6
  clear hB14 r6
  refine kw_seq ?_
  refine kw_seq ?_
  refine kw_region_f (Keeps w2) [true, true, true, false, false, false, true] (by kernel_rfl) (by kernel_rfl) (.drew _) ?_
  repeat (first | refine kf_nil ?_ | refine kf_ung rfl rfl ?_ | refine kf_skipg rfl rfl rfl rfl ?_ | refine kf_load_mid (cs := frmV F D) (b := g6) (off := 0) R6.out Try.underlying29 rfl (by rw [frmInfo, length_frmV _ _ HFS.out]) rfl rfl rfl rfl rfl ?_ | (first | refine kf_move rfl rfl (.inl rfl) rfl rfl ?_ | refine kf_move rfl rfl (.inr rfl) rfl rfl ?_ | refine kf_const rfl rfl (.inl rfl) rfl ?_ | refine kf_const rfl rfl (.inr rfl) rfl ?_) | (refine kf_val rfl rfl rfl ?_; apply Exists.intro; refine And.intro (fun W hW N hN => ?_) ?_; · (go_simp; (try go_bits); exact hN)))
  refine kf_ch ?_
  refine kl_call rfl rfl rfl Try.func12 rfl (by kernel_rfl) rfl ?_
  refine Calls.mono (of17_any F D w2.drew (HM.out.keep (.drew _))) ?_
  rintro e w3 ⟨rfl, hb⟩
  have hK3 : Keeps w2 w3 := (Keeps.drew w2).trans (.of_below hb)
  have hb3 : Below w2.heap.size w2 w3 := (Below.refl _ w2).drew.trans hb
  clear hb
  refine ⟨_, rfl, ?_⟩
  refine kl_nil ?_
  refine kq_f hK3 ?_
  repeat (first | refine kf_nil ?_ | refine kf_ung rfl rfl ?_ | refine kf_skipg rfl rfl rfl rfl ?_ | (first | refine kf_move rfl rfl (.inl rfl) rfl rfl ?_ | refine kf_move rfl rfl (.inr rfl) rfl rfl ?_ | refine kf_const rfl rfl (.inl rfl) rfl ?_ | refine kf_const rfl rfl (.inr rfl) rfl ?_) | (refine kf_val rfl rfl rfl ?_; apply Exists.intro; refine And.intro (fun W hW N hN => ?_) ?_; · (go_simp; (try go_bits); exact hN)))
  refine kf_ch ?_
  refine kl_call rfl rfl rfl Try.func25 rfl (by kernel_rfl) rfl ?_
  refine Calls.mono (refBytes17_any F D w3 (HM.out.keep hK3) (by omega)) ?_
  rintro e w4 ⟨v4, rfl, hown, hb⟩
  have hK4 : Keeps w2 w4 := hK3.trans (.of_below hb)
  have hb4 : Below w2.heap.size w2 w4 := below_two hb3 hb
  obtain ⟨A44, c44, rfl, hB44, _, _⟩ := own_B hown
  clear hb hb3 hK3 hown
  rw [HBS.out] at hB44 ⊢
  have hcv4 := convB (c := c44) hB44
  have HBB := Lib.hid hb4
  clear hb4 hB44
  refine ⟨_, rfl, ?_⟩
  refine kl_nil ?_
  refine kq_f hK4 ?_
  repeat (first | refine kf_nil ?_ | refine kf_ung rfl rfl ?_ | refine kf_skipg rfl rfl rfl rfl ?_ | (first | refine kf_move rfl rfl (.inl rfl) rfl rfl ?_ | refine kf_move rfl rfl (.inr rfl) rfl rfl ?_ | refine kf_const rfl rfl (.inl rfl) rfl ?_ | refine kf_const rfl rfl (.inr rfl) rfl ?_) | (refine kf_val rfl rfl rfl ?_; apply Exists.intro; refine And.intro (fun W hW N hN => ?_) ?_; · (go_simp; (try go_bits); exact hN)))
  refine kf_ch ?_
  ((first | refine kl_step rfl rfl rfl fun K hK => ?_ | refine kl_step0 rfl rfl rfl fun K hK => ?_); go_simp; (try go_bits); (first | refine hK _ _ ?_ | refine hK _ ?_); clear hK K)
  refine kl_nil ?_
  refine kq_f hK4 ?_
  repeat (first | refine kf_nil ?_ | refine kf_ung rfl rfl ?_ | refine kf_skipg rfl rfl rfl rfl ?_ | (first | refine kf_move rfl rfl (.inl rfl) rfl rfl ?_ | refine kf_move rfl rfl (.inr rfl) rfl rfl ?_ | refine kf_const rfl rfl (.inl rfl) rfl ?_ | refine kf_const rfl rfl (.inr rfl) rfl ?_) | (refine kf_val rfl rfl rfl ?_; apply Exists.intro; refine And.intro (fun W hW N hN => ?_) ?_; · (go_simp; (try go_bits); exact hN)))
  refine kq_then ?_
  refine kw_iff rfl ?_
  refine kw_skip ?_
  refine kq_then ?_
  have HL := Lib.hid (HL.out.next HBB.out)
  have HM := Lib.hid (HM.out.keep hK4)
  have HB14 := Lib.hid (HB14.out.keep hK4)
  clear hcv4 hcv hK4 R6 HBB
  refine KW.less [1, 2, 3, 4, 5, 6, 13, 14] ?_
  simp only [nrm, lk, Nat.reduceBEq, cond_true, cond_false]
  have hlb := HLB.out
  have q1 : (6 : Int) ≤ N := by omega
  cases v
  · refine kw_seq ?_
    refine kw_seq ?_
    refine kw_region ?_
    (first | refine kl_move rfl rfl (.inl rfl) rfl rfl ?_ | refine kl_move rfl rfl (.inr rfl) rfl rfl ?_ | refine kl_const rfl rfl (.inl rfl) rfl ?_ | refine kl_const rfl rfl (.inr rfl) rfl ?_)
    refine kl_nil ?_
    refine kq_then ?_
    refine kw_iff rfl ?_
    refine kw_skip ?_
    refine kq_then ?_
    refine KW.less [1, 2, 3, 4, 5, 6, 13, 14] ?_
    simp only [nrm, lk, Nat.reduceBEq, cond_true, cond_false]
    clear q1
    refine frames_round4 hk HL.out HM.out hd HAP.out HA1.out hn1 hc1 HA2.out hn2 hc2 HA4.out hn4 hc4 h200 hz HB14.out (by omega) ?_ (fun w' F' D' h1 h2 h3 h4 => kq_block (HQ.out w' F' D' h1 h2 h3 h4))
    intro h1
    have := HRB.out (by rw [← HBS.out]; exact (parse_back F (HGD.out h1).1 HM.out.id HM.out.size HM.out.at_ HFS.out (by omega)).2 (by have := nf_data F; have := (HGD.out h1).2; omega))
    simpa using this
  · refine kw_seq ?_
    refine kw_seq ?_
    refine kw_region ?_
    (first | refine kl_move rfl rfl (.inl rfl) rfl rfl ?_ | refine kl_move rfl rfl (.inr rfl) rfl rfl ?_ | refine kl_const rfl rfl (.inl rfl) rfl ?_ | refine kl_const rfl rfl (.inr rfl) rfl ?_)
    refine kl_nil ?_
    refine kq_then ?_
    refine kw_ift rfl ?_
    have q2 : (if (N : Int) < 6 then (N : Int) else 6) = 6 := by rw [if_neg (by omega)]
    have q3 : (if (6 : Int) < (N : Int) then (6 : Int) else (N : Int)) = 6 := by split <;> omega
    have q4 : (if (6 : Int) ≤ (N : Int) then (6 : Int) else (N : Int)) = 6 := by split <;> omega
    have q5 : (6 : Int) ≤ c14 := by omega
    have q6 : (N : Int) ≤ c14 := by omega
    have q7 : 6 ≤ N := by omega
    repeat (first | refine kw_seq ?_ | refine kw_region ?_ | (first | refine kl_move rfl rfl (.inl rfl) rfl rfl ?_ | refine kl_move rfl rfl (.inr rfl) rfl rfl ?_ | refine kl_const rfl rfl (.inl rfl) rfl ?_ | refine kl_const rfl rfl (.inr rfl) rfl ?_) | ((first | refine kl_step rfl rfl rfl fun K hK => ?_ | refine kl_step0 rfl rfl rfl fun K hK => ?_); go_simp; (try go_bits); (first | refine hK _ _ ?_ | refine hK _ ?_); clear hK K))
    refine kl_nil ?_
    refine kq_then ?_
    clear q1 q2 q3 q4 q5 q6
    have hB6 := HB14.out.from_ (k := 6) (cap := c14) q7 hc14
    refine KW.less [1, 2, 3, 4, 5, 6, 13, 14] ?_
    simp only [nrm, lk, Nat.reduceBEq, cond_true, cond_false]
    refine frames_round4 hk HL.out HM.out hd HAP.out HA1.out hn1 hc1 HA2.out hn2 hc2 HA4.out hn4 hc4 h200 hz hB6 (by omega) ?_ (fun w' F' D' h1 h2 h3 h4 => kq_block (HQ.out w' F' D' h1 h2 h3 h4))
    intro h1
    have := HRB.out (by rw [← HBS.out]; exact (parse_back F (HGD.out h1).1 HM.out.id HM.out.size HM.out.at_ HFS.out (by omega)).2 (by have := nf_data F; have := (HGD.out h1).2; omega))
    simpa using this
end Go.Proofs.Ytfhlnadhcalkkaa
namespace Go.Proofs.Ytfhlnadhcalkkaa
open Go.RowKit
attribute [local go_sem] ev_tmp ev_const ev_func ev_global lk_hit lk_miss uponK_value uponK_skip look_tmp look_const look_global look_func valP_value
set_option maxRecDepth 100000 in
set_option maxHeartbeats 2000000 in
theorem sessionFrames_top (f : Frm) (D : Value) (A1 : Option Addr) (n1 c1 : Nat) (zs : List Int) (A2 : Option Addr) (n2 c2 : Nat) (ys : List UInt8) (z : Int) (A4 : Option Addr) (n4 c4 : Nat) (raw : List UInt8) (v : Bool) (w : World) (hM : FrmM w f D)
  (hA1 : Vs w A1 n1 (zs.map (Value.int .i64))) (hn1 : n1 ≤ c1) (hc1 : c1 ≤ 140737488351232) (_ : ∀ x ∈ zs, -9223372036854775808 ≤ x ∧ x ≤ 9223372036854775807) (hA2 : Bs w A2 n2 ys) (hn2 : n2 ≤ c2) (hc2 : c2 ≤ 140737488351232)
  (hz : -9223372036854775808 ≤ z ∧ z ≤ 9223372036854775807) (hA4 : Bs w A4 n4 raw) (hn4 : n4 ≤ c4) (hc4 : c4 ≤ 140737488351232) :
    Calls Try.prog 4 #[.agg (frmV f D).toArray, .slice A1 n1 c1, .slice A2 n2 c2, .int .i64 z, .slice A4 n4 c4, .bool v] w (LawP w) := by
  have HS := Lib.hid hM.sum
  refine calls_kw Try.func4 rfl Try.ntmps4 rfl [(0, .agg (frmV f D).toArray), (1, .slice A1 n1 c1), (2, .slice A2 n2 c2), (3, .int .i64 z), (4, .slice A4 n4 c4), (5, .bool v)] rfl ?_
  have HM0 := Lib.hid hM
  have HA1 := Lib.hid hA1
  have HA2 := Lib.hid hA2
  have HA4 := Lib.hid hA4
  refine kw_seq ?_
  refine kw_region ?_
  refine kl_boxL (Lay.start w) rfl rfl rfl rfl rfl ?_
  intro g1 w1 eg1 hb1 hL
  have HM := Lib.hid (hM.keep (.of_below hb1))
  have HDL := Lib.hid hM.data
  have HG1 := Lib.hid eg1
  clear hb1 hM hA1 hA2 hA4 eg1
  repeat (first | refine kw_seq ?_ | refine kw_block ?_ | refine kw_skip ?_ | refine kw_region ?_ | refine kl_nil ?_ | refine kq_then ?_ | refine kq_block ?_ | refine kw_exit ?_ | refine kq_then_exit ?_ | refine kq_block_here rfl ?_ | refine kq_block_far rfl ?_ | refine kq_again_exit ?_ | refine kw_ret ?_ | refine kq_then_ret ?_ | refine kq_block_ret ?_ | refine kq_again_ret ?_ | refine kw_ift rfl ?_ | refine kw_iff rfl ?_ | refine kl_ung rfl rfl ?_ | refine kl_skipg rfl rfl rfl rfl ?_ | refine kl_skipg0 rfl rfl rfl ?_ | (first | refine kl_move rfl rfl (.inl rfl) rfl rfl ?_ | refine kl_move rfl rfl (.inr rfl) rfl rfl ?_ | refine kl_const rfl rfl (.inl rfl) rfl ?_ | refine kl_const rfl rfl (.inr rfl) rfl ?_) | ((first | refine kl_step rfl rfl rfl fun K hK => ?_ | refine kl_step0 rfl rfl rfl fun K hK => ?_); go_simp; (try go_bits); (first | refine hK _ _ ?_ | refine hK _ ?_); clear hK K))
  refine kl_call rfl rfl rfl Try.func8 rfl (by kernel_rfl) rfl ?_
  refine Calls.mono (known17_any _) ?_
  rintro e w2 ⟨rfl, hb⟩
  refine ⟨_, rfl, ?_⟩
  have hL := hL.next hb
  have HM := Lib.hid (HM.out.keep (.of_below hb))
  clear hb
  repeat (first | refine kw_seq ?_ | refine kw_block ?_ | refine kw_skip ?_ | refine kw_region ?_ | refine kl_nil ?_ | refine kq_then ?_ | refine kq_block ?_ | refine kw_exit ?_ | refine kq_then_exit ?_ | refine kq_block_here rfl ?_ | refine kq_block_far rfl ?_ | refine kq_again_exit ?_ | refine kw_ret ?_ | refine kq_then_ret ?_ | refine kq_block_ret ?_ | refine kq_again_ret ?_ | refine kw_ift rfl ?_ | refine kw_iff rfl ?_ | refine kl_ung rfl rfl ?_ | refine kl_skipg rfl rfl rfl rfl ?_ | refine kl_skipg0 rfl rfl rfl ?_ | refine kl_getL hL 0 rfl Try.underlying29 rfl (infoF _ _ HS.out) rfl rfl rfl rfl rfl ?_ | (first | refine kl_move rfl rfl (.inl rfl) rfl rfl ?_ | refine kl_move rfl rfl (.inr rfl) rfl rfl ?_ | refine kl_const rfl rfl (.inl rfl) rfl ?_ | refine kl_const rfl rfl (.inr rfl) rfl ?_) | ((first | refine kl_step rfl rfl rfl fun K hK => ?_ | refine kl_step0 rfl rfl rfl fun K hK => ?_); go_simp; (try go_bits); (first | refine hK _ _ ?_ | refine hK _ ?_); clear hK K))
  refine kl_call rfl rfl rfl Try.func15 rfl (by kernel_rfl) rfl ?_
  refine Calls.mono (few17_any f D w2 HM.out) ?_
  rintro e w3 ⟨rfl, hb⟩
  have hL := hL.next hb
  have HM := Lib.hid (HM.out.keep (.of_below hb))
  clear hb
  refine ⟨_, rfl, ?_⟩
  by_cases hfew : f.data.length ≤ 120
  case neg =>
    have t1 : decide (f.data.length ≤ 120) = false := decide_eq_false hfew
    clear hfew
    repeat (first | refine kw_seq ?_ | refine kw_block ?_ | refine kw_skip ?_ | refine kw_region ?_ | refine kl_nil ?_ | refine kq_then ?_ | refine kq_block ?_ | refine kw_exit ?_ | refine kq_then_exit ?_ | refine kq_block_here rfl ?_ | refine kq_block_far rfl ?_ | refine kq_again_exit ?_ | refine kw_ret ?_ | refine kq_then_ret ?_ | refine kq_block_ret ?_ | refine kq_again_ret ?_ | refine kw_ift rfl ?_ | refine kw_iff rfl ?_ | refine kl_ung rfl rfl ?_ | refine kl_skipg rfl rfl rfl rfl ?_ | refine kl_skipg0 rfl rfl rfl ?_ | (first | refine kl_move rfl rfl (.inl rfl) rfl rfl ?_ | refine kl_move rfl rfl (.inr rfl) rfl rfl ?_ | refine kl_const rfl rfl (.inl rfl) rfl ?_ | refine kl_const rfl rfl (.inr rfl) rfl ?_) | ((first | refine kl_step rfl rfl rfl fun K hK => ?_ | refine kl_step0 rfl rfl rfl fun K hK => ?_); go_simp; (try go_bits); (first | refine hK _ _ ?_ | refine hK _ ?_); clear hK K))
    exact kq_ret1 rfl rfl ⟨rfl, hL.below⟩
  have t1 : decide (f.data.length ≤ 120) = true := decide_eq_true hfew
  have HFEW := Lib.hid hfew
  clear hfew
  by_cases h200 : n4 ≤ 200
  case neg =>
    have t2 : decide ((200 : Int) < (n4 : Int)) = true := by rw [decide_eq_true_eq]; omega
    have t2n : decide (200 < n4) = true := by rw [decide_eq_true_eq]; omega
    clear h200
    repeat (first | refine kw_seq ?_ | refine kw_block ?_ | refine kw_skip ?_ | refine kw_region ?_ | refine kl_nil ?_ | refine kq_then ?_ | refine kq_block ?_ | refine kw_exit ?_ | refine kq_then_exit ?_ | refine kq_block_here rfl ?_ | refine kq_block_far rfl ?_ | refine kq_again_exit ?_ | refine kw_ret ?_ | refine kq_then_ret ?_ | refine kq_block_ret ?_ | refine kq_again_ret ?_ | refine kw_ift rfl ?_ | refine kw_iff rfl ?_ | refine kl_ung rfl rfl ?_ | refine kl_skipg rfl rfl rfl rfl ?_ | refine kl_skipg0 rfl rfl rfl ?_ | (first | refine kl_move rfl rfl (.inl rfl) rfl rfl ?_ | refine kl_move rfl rfl (.inr rfl) rfl rfl ?_ | refine kl_const rfl rfl (.inl rfl) rfl ?_ | refine kl_const rfl rfl (.inr rfl) rfl ?_) | ((first | refine kl_step rfl rfl rfl fun K hK => ?_ | refine kl_step0 rfl rfl rfl fun K hK => ?_); go_simp; (try go_bits); (first | refine hK _ _ ?_ | refine hK _ ?_); clear hK K))
    exact kq_ret1 rfl rfl ⟨rfl, hL.below⟩
  have t2 : decide ((200 : Int) < (n4 : Int)) = false := by rw [decide_eq_false_iff_not]; omega
  have t2n : decide (200 < n4) = false := by rw [decide_eq_false_iff_not]; omega
  have H200 := Lib.hid h200
  clear h200
  repeat (first | refine kw_seq ?_ | refine kw_skip ?_ | refine kw_region ?_ | refine kl_nil ?_ | refine kq_then ?_ | refine kq_block ?_ | refine kw_exit ?_ | refine kq_then_exit ?_ | refine kq_block_here rfl ?_ | refine kq_block_far rfl ?_ | refine kq_again_exit ?_ | refine kw_ret ?_ | refine kq_then_ret ?_ | refine kq_block_ret ?_ | refine kq_again_ret ?_ | refine kw_ift rfl ?_ | refine kw_iff rfl ?_ | refine kl_ung rfl rfl ?_ | refine kl_skipg rfl rfl rfl rfl ?_ | refine kl_skipg0 rfl rfl rfl ?_ | (first | refine kl_move rfl rfl (.inl rfl) rfl rfl ?_ | refine kl_move rfl rfl (.inr rfl) rfl rfl ?_ | refine kl_const rfl rfl (.inl rfl) rfl ?_ | refine kl_const rfl rfl (.inr rfl) rfl ?_) | ((first | refine kl_step rfl rfl rfl fun K hK => ?_ | refine kl_step0 rfl rfl rfl fun K hK => ?_); go_simp; (try go_bits); (first | refine hK _ _ ?_ | refine hK _ ?_); clear hK K))
  clear t1 t2 t2n
  have HAPf : Hid (0 < f.data.length → ∀ b o n c, D = .slice (some ⟨b, o, none⟩) n c → b ≠ g1) := Lib.hid (fun h0 b o n c e => by
    subst e
    have := HDL.out.lt h0
    have := hL.ge 0 rfl
    omega)
  refine KW.less [1, 2, 3, 4, 5, 6, 13] ?_
  simp only [nrm, lk, Nat.reduceBEq, cond_true, cond_false]
  refine kw_block ?_
  have HLL := Lib.hid hL
  clear hL
  refine kw_loop (fun mm L W => ∃ k F' D', k ≤ 2 ∧ mm = 2 - k ∧ Lay w W [(g1, (frmV F' D').toArray, 29)] ∧ FrmM W F' D' ∧ F'.data.length ≤ 120 ∧ (0 < F'.data.length → ∀ b o n c, D' = .slice (some ⟨b, o, none⟩) n c → b ≠ g1) ∧ (k = 1 → (1 ≤ F'.kind ∧ F'.kind ≤ 5) ∧ F'.data.length ≤ 64) ∧ L = [(1, .slice A1 n1 c1), (2, .slice A2 n2 c2), (3, .int .i64 z), (4, .slice A4 n4 c4), (5, .bool v), (6, .pointer (some ⟨g1, 0, none⟩)), (13, .int .i64 (k : Int))]) ⟨0, f, D, by omega, rfl, HLL.out, HM.out, HFEW.out, HAPf.out, fun h => by omega, rfl⟩ ?_
  clear HLL HM HAPf HDL HM0 HS HFEW
  rintro mm L W ⟨k, F, DF, hk, rfl, hL, hM, hd, hap, hgd, rfl⟩
  by_cases hlt : k < 2
  · have t1 : decide ((k : Int) < 2) = true := by rw [decide_eq_true_eq]; omega
    have t1n : decide (k < 2) = true := by rw [decide_eq_true_eq]; omega
    repeat (first | refine kw_seq ?_ | refine kw_region ?_ | refine kl_nil ?_ | refine kq_then ?_ | refine kw_ift rfl ?_ | refine kw_skip ?_ | (first | refine kl_move rfl rfl (.inl rfl) rfl rfl ?_ | refine kl_move rfl rfl (.inr rfl) rfl rfl ?_ | refine kl_const rfl rfl (.inl rfl) rfl ?_ | refine kl_const rfl rfl (.inr rfl) rfl ?_) | ((first | refine kl_step rfl rfl rfl fun K hK => ?_ | refine kl_step0 rfl rfl rfl fun K hK => ?_); go_simp; (try go_bits); (first | refine hK _ _ ?_ | refine hK _ ?_); clear hK K))
    refine KW.less [1, 2, 3, 4, 5, 6, 13] ?_
    simp only [nrm, lk, Nat.reduceBEq, cond_true, cond_false]
    clear t1 t1n
    refine frames_round (by omega) hL hM hd hap HA1.out hn1 hc1 HA2.out hn2 hc2 HA4.out hn4 (by omega) H200.out hz hgd ?_
    intro w' F' D' hL' hM' hF' hap'
    clear hL hM hap hgd
    refine kq_then ?_
    obtain ⟨nk, hnk⟩ : ∃ nk, k + 1 = nk := ⟨_, rfl⟩
    have i3 : (k : Int) + 1 = (nk : Int) := by omega
    have i4 : IntKind.i64.wrap ((k : Int) + 1) = (nk : Int) := by rw [i3, IntWalk.i64_in _ (by omega)]
    have HNK := Lib.hid hnk
    clear hnk
    repeat (first | refine kw_seq ?_ | refine kw_region ?_ | (first | refine kl_move rfl rfl (.inl rfl) rfl rfl ?_ | refine kl_move rfl rfl (.inr rfl) rfl rfl ?_ | refine kl_const rfl rfl (.inl rfl) rfl ?_ | refine kl_const rfl rfl (.inr rfl) rfl ?_) | ((first | refine kl_step rfl rfl rfl fun K hK => ?_ | refine kl_step0 rfl rfl rfl fun K hK => ?_); go_simp; (try go_bits); (first | refine hK _ _ ?_ | refine hK _ ?_); clear hK K))
    refine kl_nil ?_
    have hnk := HNK.out
    refine kq_again (2 - nk) [1, 2, 3, 4, 5, 6, 13] (by omega) ?_
    refine ⟨nk, F', D', by omega, rfl, hL', hM', ?_, hap', fun _ => ?_, rfl⟩
    · rw [hF']; have := goodF_data F; omega
    · rw [hF']; exact ⟨goodF_kind F, goodF_data F⟩
  · obtain rfl : k = 2 := by omega
    have t1 : decide (((2 : Nat) : Int) < 2) = false := by decide
    clear hlt
    repeat (first | refine kw_seq ?_ | refine kw_region ?_ | (first | refine kl_move rfl rfl (.inl rfl) rfl rfl ?_ | refine kl_move rfl rfl (.inr rfl) rfl rfl ?_ | refine kl_const rfl rfl (.inl rfl) rfl ?_ | refine kl_const rfl rfl (.inr rfl) rfl ?_) | ((first | refine kl_step rfl rfl rfl fun K hK => ?_ | refine kl_step0 rfl rfl rfl fun K hK => ?_); go_simp; (try go_bits); (first | refine hK _ _ ?_ | refine hK _ ?_); clear hK K))
    refine kl_nil ?_
    refine kq_then ?_
    refine kw_iff rfl ?_
    refine kw_exit ?_
    refine kq_then_exit ?_
    refine kq_again_exit ?_
    refine kq_block_here rfl ?_
    refine kq_then ?_
    repeat (first | refine kw_seq ?_ | refine kw_region ?_ | refine kl_nil ?_ | refine kq_then ?_ | refine kw_ret ?_ | refine kq_then_ret ?_ | (first | refine kl_move rfl rfl (.inl rfl) rfl rfl ?_ | refine kl_move rfl rfl (.inr rfl) rfl rfl ?_ | refine kl_const rfl rfl (.inl rfl) rfl ?_ | refine kl_const rfl rfl (.inr rfl) rfl ?_) | ((first | refine kl_step rfl rfl rfl fun K hK => ?_ | refine kl_step0 rfl rfl rfl fun K hK => ?_); go_simp; (try go_bits); (first | refine hK _ _ ?_ | refine hK _ ?_); clear hK K))
    exact kq_ret1 rfl rfl ⟨rfl, hL.below⟩
end Go.Proofs.Ytfhlnadhcalkkaa
