/- SessionFrames: a round from the changed bytes on. SessionFrames: a round from the copies on. -/
import Derived.Test.YtfhlnadhcalkkaaSesFrm3
import Derived.Test.YtfhlnadhcalkkaaRegionS
namespace Go.Proofs.Ytfhlnadhcalkkaa
open Go.RowKit
attribute [local go_sem] ev_tmp ev_const ev_func ev_global lk_hit lk_miss uponK_value uponK_skip look_tmp look_const look_global look_func valP_value
theorem SlB.row0 {w : World} {l : List UInt8} {v : Value} (h : SlB w l v) {g : Nat} (hp : 0 < l.length → ∀ b o n c, v = .slice (some ⟨b, o, none⟩) n c → b ≠ g) (cs : Array Value) : SlB (w.setRow g cs) l v := by
  obtain ⟨A, n, c, rfl, hb, r⟩ := h
  rcases Nat.eq_zero_or_pos n with h0 | h0
  · subst h0
    have hl : l = [] := List.eq_nil_of_length_eq_zero hb.len
    subst hl
    exact ⟨A, 0, c, rfl, Bs.nil _ _, r⟩
  · exact ⟨A, n, c, rfl, Vs.setRow hb (fun b o e => hp (by rw [hb.len]; exact h0) b o n c (by rw [e])) cs, r⟩
theorem FrmM.row0 {w : World} {f : Frm} {D : Value} (h : FrmM w f D) {g : Nat} (hp : 0 < f.data.length → ∀ b o n c, D = .slice (some ⟨b, o, none⟩) n c → b ≠ g) (cs : Array Value) : FrmM (w.setRow g cs) f D := ⟨h.kind, h.id, h.size, h.at_, h.sum, h.data.row0 hp cs⟩
theorem Ps.lit4 {w : World} {A A' A2 A3 : Option Addr} {n c n' c' n2 c2 n3 c3 : Nat} {l l' l2 l3 : List UInt8} (t : TypeId) {B : Nat} (hB : B = w.heap.size) (h : Bs w A n l) (hm : n ≤ c) (hc : c ≤ 9223372036854775807) (h' : Bs w A' n' l') (hm' : n' ≤ c') (hc' : c' ≤ 9223372036854775807)
    (h2 : Bs w A2 n2 l2) (hm2 : n2 ≤ c2) (hc2 : c2 ≤ 9223372036854775807) (h3 : Bs w A3 n3 l3) (hm3 : n3 ≤ c3) (hc3 : c3 ≤ 9223372036854775807) :
    Ps (w.alloc (.cells #[.slice A n c, .slice A' n' c', .slice A2 n2 c2, .slice A3 n3 c3] t)) (some ⟨B, 0, none⟩) 4 [l, l', l2, l3] :=
  Ps.cons_ (cell_new' w _ t 0 hB rfl) (h.alloc _) hm hc (Ps.cons_ (cell_new' w _ t _ hB rfl) (h'.alloc _) hm' hc' (Ps.cons_ (cell_new' w _ t _ hB rfl) (h2.alloc _) hm2 hc2 (Ps.one (cell_new' w _ t _ hB rfl) (h3.alloc _) hm3 hc3)))
set_option maxRecDepth 100000 in
set_option maxHeartbeats 2000000 in
theorem frames_round3 {w wr : World} {g6 n1 c1 n2 c2 n4 c4 N m c14 c15 k : Nat} {A1 A2 A4 A14 A15 : Option Addr} {z : Int} {v : Bool} {zs : List Int} {ys raw bs cs : List UInt8} {F : Frm} {D : Value} {Q : Exit → Act → World → Prop} (hk : k ≤ 1) (hL : Lay w wr [(g6, (frmV F D).toArray, 29)]) (hM : FrmM wr F D) (hd : F.data.length ≤ 120)
  (hap : 0 < F.data.length → ∀ b o n c, D = .slice (some ⟨b, o, none⟩) n c → b ≠ g6) (hA4 : Bs wr A4 n4 raw) (hn4 : n4 ≤ c4) (hc4 : c4 ≤ 9223372036854775807) (h200 : n4 ≤ 200)
  (hB14 : Bs wr A14 N bs) (hN14 : N ≤ c14) (hc14 : c14 ≤ 9223372036854775807) (hN : N ≤ 60100) (hB15 : Bs wr A15 m cs) (hN15 : m ≤ c15) (hc15 : c15 ≤ 9223372036854775807) (hm : m ≤ 60100)
  (hp : k = 1 → parseF (rowS v bs) = (nf F, 0))
  (hQ : ∀ w' F' D', Lay w w' [(g6, (frmV F' D').toArray, 29)] → FrmM w' F' D' → F' = goodF F → (0 < F'.data.length → ∀ b o n c, D' = .slice (some ⟨b, o, none⟩) n c → b ≠ g6) → KQ Q .normal 177 [(1, .slice A1 n1 c1), (2, .slice A2 n2 c2), (3, .int .i64 z), (4, .slice A4 n4 c4), (5, .bool v), (6, .pointer (some ⟨g6, 0, none⟩)), (13, .int .i64 (k : Int))] w') :
    KW Try.prog (restAt Try.f4 21) Q 177 [(1, .slice A1 n1 c1), (2, .slice A2 n2 c2), (3, .int .i64 z), (4, .slice A4 n4 c4), (5, .bool v), (6, .pointer (some ⟨g6, 0, none⟩)), (13, .int .i64 (k : Int)), (14, .slice A14 N c14), (15, .slice A15 m c15)] wr := by
  conv => arg 2; whnf
  have HQ := Lib.hid hQ
  have HPP := Lib.hid hp
  have HM := Lib.hid hM
  have HL := Lib.hid hL
  have HAP := Lib.hid hap
  have HA4 := Lib.hid hA4
  have HB14 := Lib.hid hB14
  have HB15 := Lib.hid hB15
  have HL1 := Lib.hid hB14.len
  have HL2 := Lib.hid hB15.len
  have HL3 := Lib.hid hA4.len
  clear hQ hp hM hL hap hA4 hB14 hB15
  repeat (first | refine kw_seq ?_ | refine kw_region ?_ | refine kl_nil ?_ | refine kq_then ?_ | (first | refine kl_move rfl rfl (.inl rfl) rfl rfl ?_ | refine kl_move rfl rfl (.inr rfl) rfl rfl ?_ | refine kl_const rfl rfl (.inl rfl) rfl ?_ | refine kl_const rfl rfl (.inr rfl) rfl ?_) | ((first | refine kl_step rfl rfl rfl fun K hK => ?_ | refine kl_step0 rfl rfl rfl fun K hK => ?_); go_simp; (try go_bits); (first | refine hK _ _ ?_ | refine hK _ ?_); clear hK K))
  refine kl_clone _ rfl A14 N c14 bs HB14.out (by omega) rfl rfl rfl rfl rfl rfl ?_
  intro v1 w1 hown hb
  have hA4 := HA4.out.keep (.of_below hb)
  (first | refine kl_move rfl rfl (.inl rfl) rfl rfl ?_ | refine kl_move rfl rfl (.inr rfl) rfl rfl ?_ | refine kl_const rfl rfl (.inl rfl) rfl ?_ | refine kl_const rfl rfl (.inr rfl) rfl ?_)
  refine kl_append wr.heap.size v1 N bs hown A4 n4 c4 raw hA4 (by omega) hb.size rfl rfl rfl rfl rfl rfl ?_
  intro v2 w2 hown2 hg _
  have hb2 := below_append hb hg hown hb.size
  have HL := Lib.hid (HL.out.next hb2)
  have HM := Lib.hid (HM.out.keep (.of_below hb2))
  have HA4 := Lib.hid (HA4.out.keep (.of_below hb2))
  have HB14 := Lib.hid (HB14.out.keep (.of_below hb2))
  have HB15 := Lib.hid (HB15.out.keep (.of_below hb2))
  obtain ⟨A2', c2', rfl, hB2, hc2, hc2'⟩ := own_B hown2
  have HB2 := Lib.hid hB2
  clear hb hown hg hown2 hA4 hb2 hB2
  (first | refine kl_move rfl rfl (.inl rfl) rfl rfl ?_ | refine kl_move rfl rfl (.inr rfl) rfl rfl ?_ | refine kl_const rfl rfl (.inl rfl) rfl ?_ | refine kl_const rfl rfl (.inr rfl) rfl ?_)
  ((first | refine kl_step rfl rfl rfl fun K hK => ?_ | refine kl_step0 rfl rfl rfl fun K hK => ?_); go_simp; (try go_bits); (first | refine hK _ _ ?_ | refine hK _ ?_); clear hK K)
  obtain ⟨g17, hg17⟩ : ∃ g17, w2.heap.size = g17 := ⟨_, rfl⟩
  have HPS : Hid (Ps (w2.alloc (.cells #[.slice A14 N c14, .slice A15 m c15, .slice A2' (N + n4) c2', .slice A4 n4 c4] 22)) (some ⟨g17, 0, none⟩) 4 [bs, cs, bs ++ raw, raw]) := Lib.hid (Ps.lit4 _ hg17.symm HB14.out hN14 hc14 HB15.out hN15 hc15 HB2.out hc2 hc2' HA4.out hn4 hc4)
  have hbA := below_alloc (Below.refl _ w2) (.cells #[.slice A14 N c14, .slice A15 m c15, .slice A2' (N + n4) c2', .slice A4 n4 c4] 22)
  rw [hg17]
  have HL := Lib.hid (HL.out.next hbA)
  have HM := Lib.hid (HM.out.keep (.of_below hbA))
  clear hbA HA4 HB14 HB15 HB2 hg17
  generalize w2.alloc _ = w3 at *
  repeat (first | refine kw_seq ?_ | refine kw_region ?_ | refine kl_nil ?_ | refine kq_then ?_ | (first | refine kl_move rfl rfl (.inl rfl) rfl rfl ?_ | refine kl_move rfl rfl (.inr rfl) rfl rfl ?_ | refine kl_const rfl rfl (.inl rfl) rfl ?_ | refine kl_const rfl rfl (.inr rfl) rfl ?_) | ((first | refine kl_step rfl rfl rfl fun K hK => ?_ | refine kl_step0 rfl rfl rfl fun K hK => ?_); go_simp; (try go_bits); (first | refine hK _ _ ?_ | refine hK _ ?_); clear hK K))
  refine KW.less [1, 2, 3, 4, 5, 6, 13, 17, 18] ?_
  simp only [nrm, lk, Nat.reduceBEq, cond_true, cond_false]
  refine frames_rows hk HL.out HM.out HPS.out ?_ ?_ ?_
  · intro x hx
    simp only [List.mem_cons, List.not_mem_nil, or_false] at hx
    have l1 := HL1.out
    have l2 := HL2.out
    have l3 := HL3.out
    rcases hx with rfl | rfl | rfl | rfl
    · omega
    · omega
    · rw [List.length_append]; omega
    · omega
  · intro h1 x hx
    injection hx with hx
    subst hx
    exact HPP.out h1
  intro w4 hb
  have HL := Lib.hid (HL.out.next hb)
  have HM := Lib.hid (HM.out.keep (.of_below hb))
  have HFS := Lib.hid HM.out.sum
  clear hb HPS
  refine kq_then ?_
  repeat (first | refine kw_seq ?_ | refine kw_block ?_ | refine kw_skip ?_ | refine kw_region ?_ | refine kl_nil ?_ | refine kq_then ?_ | refine kq_block ?_ | refine kw_exit ?_ | refine kq_then_exit ?_ | refine kq_block_here rfl ?_ | refine kq_block_far rfl ?_ | refine kq_again_exit ?_ | refine kw_ret ?_ | refine kq_then_ret ?_ | refine kq_block_ret ?_ | refine kq_again_ret ?_ | refine kw_ift rfl ?_ | refine kw_iff rfl ?_ | refine kl_ung rfl rfl ?_ | refine kl_skipg rfl rfl rfl rfl ?_ | refine kl_skipg0 rfl rfl rfl ?_ | refine kl_getL HL.out 0 rfl Try.underlying29 rfl (infoF _ _ HFS.out) rfl rfl rfl rfl rfl ?_ | (first | refine kl_move rfl rfl (.inl rfl) rfl rfl ?_ | refine kl_move rfl rfl (.inr rfl) rfl rfl ?_ | refine kl_const rfl rfl (.inl rfl) rfl ?_ | refine kl_const rfl rfl (.inr rfl) rfl ?_) | ((first | refine kl_step rfl rfl rfl fun K hK => ?_ | refine kl_step0 rfl rfl rfl fun K hK => ?_); go_simp; (try go_bits); (first | refine hK _ _ ?_ | refine hK _ ?_); clear hK K))
  refine kl_call rfl rfl rfl Try.func30 rfl (by kernel_rfl) rfl ?_
  refine Calls.mono (good17_any F D w4 HM.out (by omega)) ?_
  rintro e w5 ⟨D5, rfl, hM5, hb, hD5⟩
  have HL := Lib.hid (HL.out.next hb)
  have HFS5 := Lib.hid hM5.sum
  have HAP5 : Hid (0 < (goodF F).data.length → ∀ b o n c, D5 = .slice (some ⟨b, o, none⟩) n c → b ≠ g6) := Lib.hid (fun h0 b o n c e => by
    obtain ⟨n', c', e'⟩ := hD5 b o n c e
    have h1 : 0 < F.data.length := by have : (goodF F).data = F.data.take 64 := rfl; rw [this, List.length_take] at h0; omega
    exact HAP.out h1 b o n' c' e')
  have HM5 := Lib.hid hM5
  clear hb hD5 hM5
  refine ⟨_, rfl, ?_⟩
  obtain ⟨F5, hF5⟩ : ∃ F5, goodF F = F5 := ⟨_, rfl⟩
  rw [hF5] at HM5 HAP5 HFS5 ⊢
  refine kl_putL (cells := (frmV F5 D5).toArray) HL.out 0 rfl (infoF _ _ HFS5.out) (by simp [length_frmV _ _ HFS.out, length_frmV _ _ HFS5.out]) (frmV_one _ _ HM5.out.data.one) rfl rfl rfl rfl rfl (fun hL' => ?_)
  have hM' := HM5.out.row0 HAP5.out (frmV F5 D5).toArray
  refine kl_nil ?_
  refine KQ.less [1, 2, 3, 4, 5, 6, 13] ?_
  simp only [nrm, lk, Nat.reduceBEq, cond_true, cond_false]
  exact HQ.out _ F5 D5 hL' hM' hF5.symm HAP5.out
end Go.Proofs.Ytfhlnadhcalkkaa
namespace Go.Proofs.Ytfhlnadhcalkkaa
open Go.RowKit
attribute [local go_sem] ev_tmp ev_const ev_func ev_global lk_hit lk_miss uponK_value uponK_skip look_tmp look_const look_global look_func valP_value
set_option maxRecDepth 100000 in
set_option maxHeartbeats 2000000 in
theorem frames_round4 {w wr : World} {g6 n1 c1 n2 c2 n4 c4 N c14 k : Nat} {A1 A2 A4 A14 : Option Addr} {z : Int} {v : Bool} {zs : List Int} {ys raw bs : List UInt8} {F : Frm} {D : Value} {Q : Exit → Act → World → Prop} (hk : k ≤ 1) (hL : Lay w wr [(g6, (frmV F D).toArray, 29)]) (hM : FrmM wr F D) (hd : F.data.length ≤ 120)
  (hap : 0 < F.data.length → ∀ b o n c, D = .slice (some ⟨b, o, none⟩) n c → b ≠ g6) (hA1 : Vs w A1 n1 (zs.map (Value.int .i64))) (hn1 : n1 ≤ c1) (hc1 : c1 ≤ 140737488351232) (hA2 : Bs w A2 n2 ys) (hn2 : n2 ≤ c2) (hc2 : c2 ≤ 140737488351232) (hA4 : Bs w A4 n4 raw) (hn4 : n4 ≤ c4) (hc4 : c4 ≤ 9223372036854775807) (h200 : n4 ≤ 200) (hz : -9223372036854775808 ≤ z ∧ z ≤ 9223372036854775807)
  (hB14 : Bs wr A14 N bs) (hN : N ≤ 60100)
  (hp : k = 1 → parseF (rowS v bs) = (nf F, 0))
  (hQ : ∀ w' F' D', Lay w w' [(g6, (frmV F' D').toArray, 29)] → FrmM w' F' D' → F' = goodF F → (0 < F'.data.length → ∀ b o n c, D' = .slice (some ⟨b, o, none⟩) n c → b ≠ g6) → KQ Q .normal 177 [(1, .slice A1 n1 c1), (2, .slice A2 n2 c2), (3, .int .i64 z), (4, .slice A4 n4 c4), (5, .bool v), (6, .pointer (some ⟨g6, 0, none⟩)), (13, .int .i64 (k : Int))] w') :
    KW Try.prog (restAt Try.f4 13) Q 177 [(1, .slice A1 n1 c1), (2, .slice A2 n2 c2), (3, .int .i64 z), (4, .slice A4 n4 c4), (5, .bool v), (6, .pointer (some ⟨g6, 0, none⟩)), (13, .int .i64 (k : Int)), (14, .slice A14 N c14)] wr := by
  conv => arg 2; whnf
  have HQ := Lib.hid hQ
  have HPP := Lib.hid hp
  have HM := Lib.hid hM
  have HL := Lib.hid hL
  have HAP := Lib.hid hap
  have HA1 := Lib.hid hA1
  have HA2 := Lib.hid hA2
  have HA4 := Lib.hid hA4
  have HB14 := Lib.hid hB14
  clear hQ hp hM hL hap hA1 hA2 hA4 hB14
  repeat (first | refine kw_seq ?_ | refine kw_region ?_ | refine kl_nil ?_ | refine kq_then ?_ | (first | refine kl_move rfl rfl (.inl rfl) rfl rfl ?_ | refine kl_move rfl rfl (.inr rfl) rfl rfl ?_ | refine kl_const rfl rfl (.inl rfl) rfl ?_ | refine kl_const rfl rfl (.inr rfl) rfl ?_) | ((first | refine kl_step rfl rfl rfl fun K hK => ?_ | refine kl_step0 rfl rfl rfl fun K hK => ?_); go_simp; (try go_bits); (first | refine hK _ _ ?_ | refine hK _ ?_); clear hK K))
  refine kl_clone _ rfl A14 N c14 bs HB14.out (by omega) rfl rfl rfl rfl rfl rfl ?_
  intro v1 w1 hown hb
  have HL := Lib.hid (HL.out.next hb)
  have HM := Lib.hid (HM.out.keep (.of_below hb))
  obtain ⟨A1', c1', rfl, hB1, hc1', hc1''⟩ := own_B hown
  have HB1 := Lib.hid hB1
  clear hown hb HB14 hB1
  repeat (first | refine kw_seq ?_ | refine kw_region ?_ | refine kl_nil ?_ | refine kq_then ?_ | (first | refine kl_move rfl rfl (.inl rfl) rfl rfl ?_ | refine kl_move rfl rfl (.inr rfl) rfl rfl ?_ | refine kl_const rfl rfl (.inl rfl) rfl ?_ | refine kl_const rfl rfl (.inr rfl) rfl ?_) | ((first | refine kl_step rfl rfl rfl fun K hK => ?_ | refine kl_step0 rfl rfl rfl fun K hK => ?_); go_simp; (try go_bits); (first | refine hK _ _ ?_ | refine hK _ ?_); clear hK K))
  refine kl_clone _ rfl A1' N c1' bs HB1.out (by omega) rfl rfl rfl rfl rfl rfl ?_
  intro v2 w2 hown hb
  obtain ⟨A2', c2', rfl, _, _, _⟩ := own_B hown
  have HOWN := Lib.hid hown
  have HB := Lib.hid hb
  clear hown hb
  repeat (first | refine kw_seq ?_ | refine kw_region ?_ | refine kl_nil ?_ | refine kq_then ?_ | (first | refine kl_move rfl rfl (.inl rfl) rfl rfl ?_ | refine kl_move rfl rfl (.inr rfl) rfl rfl ?_ | refine kl_const rfl rfl (.inl rfl) rfl ?_ | refine kl_const rfl rfl (.inr rfl) rfl ?_) | ((first | refine kl_step rfl rfl rfl fun K hK => ?_ | refine kl_step0 rfl rfl rfl fun K hK => ?_); go_simp; (try go_bits); (first | refine hK _ _ ?_ | refine hK _ ?_); clear hK K))
  refine KW.less [1, 2, 3, 4, 5, 6, 13, 14, 15, 16] ?_
  simp only [nrm, lk, Nat.reduceBEq, cond_true, cond_false]
  refine frames_mut HA1.out hn1 hc1 HA2.out hn2 hc2 (HL.out.below.trans (HB.out.mono HL.out.below.size)) HL.out.below.size HOWN.out (by omega) ?_
  intro w3 C3 hown3 hg3
  have HB3 : Hid (Below w1.heap.size w1 w3) := Lib.hid (below_append HB.out hg3 HOWN.out HB.out.size)
  obtain ⟨A3', c3', e3', hB3, hc3, hc3'⟩ := own_B hown3
  injection e3' with e1 e2 e3
  subst e1; subst e3
  have HC3 : Hid (Bs w3 A2' N C3) := Lib.hid hB3
  have HL := Lib.hid (HL.out.next HB3.out)
  have HM := Lib.hid (HM.out.keep (.of_below HB3.out))
  have HB1 := Lib.hid (HB1.out.keep (.of_below HB3.out))
  have HA4 := Lib.hid (HA4.out.keep (.of_below HL.out.below))
  clear hown3 hg3 HOWN HB HB3 hB3
  refine kq_then ?_
  repeat (first | refine kw_seq ?_ | refine kw_region ?_ | (first | refine kl_move rfl rfl (.inl rfl) rfl rfl ?_ | refine kl_move rfl rfl (.inr rfl) rfl rfl ?_ | refine kl_const rfl rfl (.inl rfl) rfl ?_ | refine kl_const rfl rfl (.inr rfl) rfl ?_) | ((first | refine kl_step rfl rfl rfl fun K hK => ?_ | refine kl_step0 rfl rfl rfl fun K hK => ?_); go_simp; (try go_bits); (first | refine hK _ _ ?_ | refine hK _ ?_); clear hK K))
  refine kl_nil ?_
  refine kq_then ?_
  refine kw_ifb rfl (fun _ => ?_) (fun _ => ?_)
  · obtain ⟨N1, hN1⟩ : ∃ N1, N + 1 = N1 := ⟨_, rfl⟩
    have s1 : (N : Int) + 1 = (N1 : Int) := by omega
    have s2 : IntKind.i64.wrap ((N : Int) + 1) = (N1 : Int) := by rw [s1, IntWalk.i64_in _ (by omega)]
    have HN1 := Lib.hid hN1
    clear hN1
    repeat (first | refine kw_seq ?_ | refine kw_region ?_ | (first | refine kl_move rfl rfl (.inl rfl) rfl rfl ?_ | refine kl_move rfl rfl (.inr rfl) rfl rfl ?_ | refine kl_const rfl rfl (.inl rfl) rfl ?_ | refine kl_const rfl rfl (.inr rfl) rfl ?_) | ((first | refine kl_step rfl rfl rfl fun K hK => ?_ | refine kl_step0 rfl rfl rfl fun K hK => ?_); go_simp; (try go_bits); (first | refine hK _ _ ?_ | refine hK _ ?_); clear hK K))
    refine kl_call rfl rfl rfl Try.func16 rfl (by kernel_rfl) rfl ?_
    refine Calls.mono (within_any _ N1 _ _ rfl (by have := HN1.out; omega) (by have := HN1.out; omega)) ?_
    rintro e _ ⟨rfl, rfl⟩
    have hj := within_lt (z.tdiv 2) N1 (by have := HN1.out; omega)
    refine ⟨_, rfl, ?_⟩
    generalize within (z.tdiv 2) N1 = j at hj ⊢
    have hj' : j ≤ N := by have := HN1.out; omega
    have j0 : (0 : Int) ≤ j := by omega
    have j1 : (j : Int) ≤ c2' := by omega
    have HJ := Lib.hid hj'
    clear hj hj' s1 s2
    repeat (first | (first | refine kl_move rfl rfl (.inl rfl) rfl rfl ?_ | refine kl_move rfl rfl (.inr rfl) rfl rfl ?_ | refine kl_const rfl rfl (.inl rfl) rfl ?_ | refine kl_const rfl rfl (.inr rfl) rfl ?_) | ((first | refine kl_step rfl rfl rfl fun K hK => ?_ | refine kl_step0 rfl rfl rfl fun K hK => ?_); go_simp; (try go_bits); (first | refine hK _ _ ?_ | refine hK _ ?_); clear hK K))
    refine kl_nil ?_
    refine kq_then ?_
    refine KW.less [1, 2, 3, 4, 5, 6, 13, 14, 15] ?_
    simp only [nrm, lk, Nat.reduceBEq, cond_true, cond_false]
    have hj' := HJ.out
    exact frames_round3 (zs := zs) (ys := ys) hk HL.out HM.out hd HAP.out HA4.out hn4 hc4 h200 HB1.out hc1' hc1'' hN (HC3.out.to_ hj') (by omega) hc3' (by omega) HPP.out HQ.out
  · refine kw_skip ?_
    refine kq_then ?_
    refine KW.less [1, 2, 3, 4, 5, 6, 13, 14, 15] ?_
    simp only [nrm, lk, Nat.reduceBEq, cond_true, cond_false]
    exact frames_round3 (zs := zs) (ys := ys) hk HL.out HM.out hd HAP.out HA4.out hn4 hc4 h200 HB1.out hc1' hc1'' hN HC3.out hc3 hc3' hN HPP.out HQ.out
end Go.Proofs.Ytfhlnadhcalkkaa
